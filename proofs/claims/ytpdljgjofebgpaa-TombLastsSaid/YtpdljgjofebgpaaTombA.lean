/-
  tomb: number, add, magic; slices of marks.
-/
import Derived.Test.YtpdljgjofebgpaaTombP
import Derived.Test.YtpdljgjofebgpaaSupD
namespace Go.Proofs.Ytpdljgjofebgpaa
open Go.RowKit

set_option maxHeartbeats 1000000 in
theorem tnumber_eq {w : World} {v : Value} {bs : List UInt8} (h : RdB w v bs) (hn : bs.length ≤ 8) :
    Calls Try.prog 100 #[v] w fun e w' => e = .returned (.int .u64 (upL bs : Nat)) ∧ w = w' := by
  obtain ⟨a, cap, rfl, hc⟩ := h
  have HC := Lib.hid hc
  clear hc
  go_enter Try.func100, Try.ntmps100
  go_wp2_with fail
  go_loop [3, 4] (fun v i => ∃ k : Nat, k ≤ bs.length ∧ i = .int .i64 ((k : Int) - 1) ∧ v = .int .u64 (upL (bs.drop k) : Nat)) (fun _ i => (intOf i + 1).toNat)
  case atStart => exact ⟨bs.length, Nat.le_refl _, rfl, by rw [List.drop_length]; rfl⟩
  case round =>
    obtain ⟨k, hk, rfl, rfl⟩ := hrel
    by_cases h0 : 1 ≤ k
    · obtain ⟨j, rfl⟩ : ∃ j, k = j + 1 := ⟨k - 1, by omega⟩
      obtain ⟨g, o, rfl, hcell⟩ := HC.out (by omega)
      have hx := hcell j (by omega)
      have hst := upL_drop (l := bs) (j := j) (by omega)
      have hxl : (bs.getD j 0).toNat < 256 := (bs.getD j 0).toNat_lt
      have hlt := upL_lt (bs.drop (j + 1))
      have hlt2 := upL_lt (bs.drop j)
      have hl1 : 256 ^ (bs.drop (j + 1)).length ≤ 256 ^ 7 := Nat.pow_le_pow_right (by omega) (by simp; omega)
      have hl2 : 256 ^ (bs.drop j).length ≤ 256 ^ 8 := Nat.pow_le_pow_right (by omega) (by simp; omega)
      generalize upL (bs.drop (j + 1)) = y at *
      generalize (bs.getD j 0).toNat = x at *
      have hy : y < 72057594037927936 := Nat.lt_of_lt_of_le hlt hl1
      have HOR := Lib.hid (or_step (v := y) hxl hy)
      have HST := Lib.hid hst
      have hj : (j : Int) < (bs.length : Int) := by omega
      clear hlt hlt2 hl1 hl2 hst hcell
      go_wp2_with fail
      go_round
      case rel => exact ⟨j, by omega, rfl, by rw [HOR.out, HST.out]⟩
      case measure => simp [intOf]
    · have : k = 0 := by omega
      subst this
      go_wp2_with fail
      go_ret
      exact ⟨rfl, rfl⟩

theorem tmagic_eq (w : World) : Calls Try.prog 88 #[] w fun e w' => ∃ v, e = .returned v ∧ w'.ownsRow w.heap.size 5 1 v 4 (bytesV tomB) ∧ Fr Nob w w' := by
  go_enter Try.func88, Try.ntmps88
  go_wp2_with fail
  go_ret
  exact ⟨_, rfl, ⟨rfl, .inr ⟨w.heap.size, 4, _, rfl, Nat.le_refl _, heap_alloc_new w _, by omega, by unfold maxLen; omega, rfl, rfl⟩⟩, (Fr.refl Nob w).alloc _⟩

set_option maxHeartbeats 1000000 in
theorem tadd_eq {w0 w : World} {v : Value} {xs : List UInt8} (f : Fr Nob w0 w) (h : w.ownsRow w0.heap.size 5 1 v xs.length (bytesV xs)) (hx : xs.length ≤ 100000) {n : Nat} (hn : n ≤ 8) (val : Nat) :
    Calls Try.prog 87 #[v, .int .u64 val, .int .i64 n] w fun e w' => ∃ v', e = .returned v' ∧ w'.ownsRow w0.heap.size 5 1 v' (xs ++ le n val).length (bytesV (xs ++ le n val)) ∧ Fr Nob w0 w' ∧ Fr (fun k => v.ownBlock = some k) w w' := by
  have H0 : Hid (w.ownsRow w0.heap.size 5 1 v (xs ++ le 0 val).length (bytesV (xs ++ le 0 val))) := Lib.hid (by
    rw [show xs ++ le 0 val = xs by simp [le]]; exact h)
  have F0 := Lib.hid f
  clear h f
  go_enter Try.func87, Try.ntmps87
  go_wp2_with fail
  go_loopw [0, 9] (fun u i wr => ∃ k : Nat, k ≤ n ∧ i = .int .i64 k ∧ Hid (wr.ownsRow w0.heap.size 5 1 u (xs ++ le k val).length (bytesV (xs ++ le k val))) ∧ Hid (Fr Nob w0 wr) ∧ Hid (Fr (fun k => v.ownBlock = some k) w wr) ∧ Hid (u.ownBlock = v.ownBlock ∨ ∀ k, u.ownBlock = some k → w.heap.size ≤ k)) (fun _ i _ => n - (intOf i).toNat)
  case atStart => exact ⟨0, Nat.zero_le _, rfl, H0, F0, Lib.hid (Fr.refl _ _), Lib.hid (.inl rfl)⟩
  case round =>
    clear H0 F0
    obtain ⟨k, hk, rfl, own, fr, g, vb⟩ := hrel
    by_cases hlt : k < n
    · have hki : (k : Int) < (n : Int) := by omega
      have hlen : (xs ++ le k val).length ≤ 100008 := by rw [List.length_append, le_len]; omega
      go_wp2_with (with_reducible refine wpList_app (o := ⟨some 19, _, _, _, _, _⟩) rfl (.tmp 12) (.tmp 18) 34 rfl 5 #[.int .u8 0] 1 1 Try.underlying34 u8_info' rfl (by omega) w0.heap.size u0 (xs ++ le k val).length (bytesV (xs ++ le k val)) rfl ((Fr.refl Nob wr).alloc _ |>.ownsRow own.out fun _ _ h => h) ⟨wr.heap.size, 0, none⟩ 1 1 [.int .u8 ((val : Int) / 2 ^ (8 * k) % 256)] rfl rfl (new_one wr _ _) (by simp [Value.oneCell']) (by omega) (by omega) (by have := fr.out.size; simp; omega) ?_)
      intro v' w5 o5 f5 h5
      have own5 : Hid (w5.ownsRow w0.heap.size 5 1 v' (xs ++ le (k + 1) val).length (bytesV (xs ++ le (k + 1) val))) := Lib.hid (by
        have e : (xs ++ le (k + 1) val).length = xs.length + (le k val).length + 1 := by simp only [List.length_append, le_len]; omega
        rw [e, le_snoc, ← List.append_assoc, bytesV_append]
        have := o5.out
        rw [byte_of] at this
        exact this)
      have F5 : Hid (Fr Nob w0 w5) := Lib.hid ((fr.out.alloc (.cells #[.int .u8 ((val : Int) / 2 ^ (8 * k) % 256)] 5)).trans f5.out fun i hi (e : u0.ownBlock = some i) => absurd ((own.out.lt i e).1) (by omega))
      have G5 : Hid (Fr (fun k => v.ownBlock = some k) w w5) := Lib.hid ((g.out.alloc (.cells #[.int .u8 ((val : Int) / 2 ^ (8 * k) % 256)] 5)).trans f5.out fun i hi (e : u0.ownBlock = some i) => by
        rcases vb.out with h | h
        · rw [← h]; exact e
        · exact absurd (h i e) (by omega))
      have VB5 : Hid (v'.ownBlock = v.ownBlock ∨ ∀ k, v'.ownBlock = some k → w.heap.size ≤ k) := Lib.hid (by
        rcases h5.out with h | h
        · rw [h]; exact vb.out
        · right
          intro i hi
          rw [hi] at h
          have h : i = wr.heap.size + 1 := Option.some.inj h
          have := g.out.size
          omega)
      clear own fr o5 f5 h5 g vb
      go_wp2_with fail
      go_roundw
      case rel => exact ⟨k + 1, by omega, by go_num, own5, F5, G5, VB5⟩
      case measure => simp [intOf]; omega
    · have : k = n := by omega
      subst this
      go_wp2_with fail
      go_ret
      exact ⟨_, rfl, own.out, fr.out, g.out⟩

/-- The cells of marks in a row. -/
def mksV : List Mk → List Value
  | [] => []
  | x :: l => .int .u64 (x.1 : Int) :: .int .u64 (x.2 : Int) :: mksV l
theorem mksV_len : ∀ l : List Mk, (mksV l).length = l.length * 2
  | [] => rfl
  | x :: l => by simp [mksV, mksV_len l]; omega
theorem mksV_append : ∀ l m : List Mk, mksV (l ++ m) = mksV l ++ mksV m
  | [], _ => rfl
  | x :: l, m => by simp [mksV, mksV_append l m]
theorem mksV_one : ∀ l : List Mk, ∀ u ∈ mksV l, u.oneCell' = true
  | [], u, h => by simp [mksV] at h
  | x :: l, u, h => by
    simp only [mksV, List.mem_cons] at h
    rcases h with rfl | rfl | h
    · rfl
    · rfl
    · exact mksV_one l u h
theorem mksV_at : ∀ (l : List Mk) (j : Nat), j < l.length → (mksV l)[j * 2]? = some (.int .u64 ((l.getD j (0, 0)).1 : Int)) ∧ (mksV l)[j * 2 + 1]? = some (.int .u64 ((l.getD j (0, 0)).2 : Int))
  | [], j, h => by simp at h
  | x :: l, 0, _ => ⟨rfl, rfl⟩
  | x :: l, j + 1, h => by
    have := mksV_at l j (by simpa using h)
    rw [show (j + 1) * 2 = j * 2 + 2 by omega]
    simpa [mksV] using this

theorem mk_info : (Try.prog.info? 80).map (fun i => (i.zero.map Value.cells, i.size, i.bytes)) = some (some #[.int .u64 0, .int .u64 0], 2, 16) := by kernel_rfl

/-- What is read of a slice of marks. -/
def RdM (w : World) (v : Value) (l : List Mk) : Prop := ∃ a cap, v = .slice a l.length cap ∧ (0 < l.length → ∃ g o, a = some ⟨g, o, none⟩ ∧
  ∀ j, j < l.length → w.cell? ⟨g, o + j * 2, none⟩ = some (.int .u64 ((l.getD j (0, 0)).1 : Int)) ∧ w.cell? ⟨g, o + j * 2 + 1, none⟩ = some (.int .u64 ((l.getD j (0, 0)).2 : Int)))

theorem RdM.keep {w w' : World} {v : Value} {l : List Mk} {T : Nat → Prop} (h : RdM w v l) (f : Fr T w w') (hn : ∀ k, v.ownBlock = some k → ¬ T k) : RdM w' v l := by
  obtain ⟨a, cap, rfl, h⟩ := h
  refine ⟨a, cap, rfl, fun h0 => ?_⟩
  obtain ⟨g, o, rfl, hc⟩ := h h0
  exact ⟨g, o, rfl, fun j hj => ⟨f.cell (hc j hj).1 (hn g rfl), f.cell (hc j hj).2 (hn g rfl)⟩⟩
theorem RdM.nob {w w' : World} {v : Value} {l : List Mk} (h : RdM w v l) (f : Fr Nob w w') : RdM w' v l := h.keep f fun _ _ h => h
theorem RdM.nil (w : World) (c : Nat) : RdM w (.slice none 0 c) [] := ⟨none, c, rfl, fun h => by simp at h⟩
theorem RdM.of_row {w : World} {base : Nat} {v : Value} {l : List Mk} (h : w.ownsRow base 80 2 v l.length (mksV l)) : RdM w v l := by
  rcases h.2 with ⟨rfl, h0⟩ | ⟨g, cap, cur, rfl, _, h1, h2, h3, h4, h5⟩
  · have : l = [] := List.length_eq_zero_iff.1 h0
    subst this
    exact RdM.nil w 0
  · refine ⟨_, cap, rfl, fun _ => ⟨g, 0, rfl, fun j hj => ⟨?_, ?_⟩⟩⟩
    · have hc : cur[j * 2]? = (mksV l)[j * 2]? := by
        rw [← h5, List.getElem?_take, if_pos (by omega)]
        simp
      rw [Nat.zero_add, cell_of_row w g _ _ _ (0, 0) h1, hc, (mksV_at l j hj).1]
    · have hc : cur[j * 2 + 1]? = (mksV l)[j * 2 + 1]? := by
        rw [← h5, List.getElem?_take, if_pos (by omega)]
        simp
      rw [Nat.zero_add, cell_of_row w g _ _ _ (0, 0) h1, hc, (mksV_at l j hj).2]

end Go.Proofs.Ytpdljgjofebgpaa
