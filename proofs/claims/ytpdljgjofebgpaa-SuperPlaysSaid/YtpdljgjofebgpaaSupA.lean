/-
  super: number, lay, slices.Equal of bytes.
-/
import Derived.Test.YtpdljgjofebgpaaSupP
namespace Go.Proofs.Ytpdljgjofebgpaa
open Go.RowKit

theorem or_nat {v b : Nat} (hb : b < 256) : (v * 256) ||| b = v * 256 + b := by
  have := Nat.shiftLeft_add_eq_or_of_lt (b := b) (i := 8) hb v
  rw [Nat.shiftLeft_eq] at this
  exact this.symm
theorem or_step {v b : Nat} (hb : b < 256) (hv : v < 72057594037927936) : bits .or .u64 ((v : Int) * 256) (b : Int) = ((b + 256 * v : Nat) : Int) := by
  have h1 : v * 256 < 18446744073709551616 := by omega
  have h2 : b < 18446744073709551616 := by omega
  have h := u64_or_nat (v * 256) b h1 h2
  rw [or_nat hb] at h
  have e : ((v * 256 : Nat) : Int) = (v : Int) * 256 := by omega
  rw [e] at h
  rw [h]
  congr 1
  omega

set_option maxHeartbeats 1000000 in
theorem number_eq {w : World} {v : Value} {bs : List UInt8} (h : RdB w v bs) (hn : bs.length ≤ 8) :
    Calls Try.prog 62 #[v] w fun e w' => e = .returned (.int .u64 (upL bs : Nat)) ∧ w = w' := by
  obtain ⟨a, cap, rfl, hc⟩ := h
  have HC := Lib.hid hc
  clear hc
  go_enter Try.func62, Try.ntmps62
  go_wp2_with fail
  go_loop [3, 4] (fun v i => ∃ k : Nat, k ≤ bs.length ∧ i = .int .i64 ((k : Int) - 1) ∧ v = .int .u64 (upL (bs.drop k) : Nat)) (fun _ i => (intOf i + 1).toNat)
  case atStart => exact ⟨bs.length, Nat.le_refl _, rfl, by rw [List.drop_length]; rfl⟩
  case round =>
    obtain ⟨k, hk, rfl, rfl⟩ := hrel
    by_cases h0 : 1 ≤ k
    · obtain ⟨j, rfl⟩ : ∃ j, k = j + 1 := ⟨k - 1, by omega⟩
      obtain ⟨g, o, rfl, hcell⟩ := HC.out (by omega)
      have hx := hcell j (by omega)
      have hst := upL_drop (l := bs) (j := j) (by omega)
      have hxl : (bs.getD j 0).toNat < 256 := (bs.getD j 0).toNat_lt
      have hlt := upL_lt (bs.drop (j + 1))
      have hlt2 := upL_lt (bs.drop j)
      have hl1 : 256 ^ (bs.drop (j + 1)).length ≤ 256 ^ 7 := Nat.pow_le_pow_right (by omega) (by simp; omega)
      have hl2 : 256 ^ (bs.drop j).length ≤ 256 ^ 8 := Nat.pow_le_pow_right (by omega) (by simp; omega)
      generalize upL (bs.drop (j + 1)) = y at *
      generalize (bs.getD j 0).toNat = x at *
      have hy : y < 72057594037927936 := Nat.lt_of_lt_of_le hlt hl1
      have HOR := Lib.hid (or_step (v := y) hxl hy)
      have HST := Lib.hid hst
      have hj : (j : Int) < (bs.length : Int) := by omega
      clear hlt hlt2 hl1 hl2 hst hcell
      go_wp2_with fail
      go_round
      case rel => exact ⟨j, by omega, rfl, by rw [HOR.out, HST.out]⟩
      case measure => simp [intOf]
    · have : k = 0 := by omega
      subst this
      go_wp2_with fail
      go_ret
      exact ⟨rfl, rfl⟩

abbrev bytesAt (w : World) (g : Nat) (l : List UInt8) : Prop := w.heap[g]? = some (.cells (bytesV l).toArray 5 (0, 0))

theorem bytesV_set (l : List UInt8) (i : Nat) (b : UInt8) : (bytesV l).set i (.int .u8 (b.toNat : Int)) = bytesV (l.set i b) := by
  unfold bytesV
  rw [List.map_set]
theorem bytesAt_set {w : World} {g : Nat} {l : List UInt8} (h : bytesAt w g l) (i : Nat) (b : UInt8) : bytesAt (w.setCell ⟨g, i, none⟩ (.int .u8 (b.toNat : Int))) g (l.set i b) := by
  unfold bytesAt
  rw [heap_setCell_same w g i _ _ _ h, ← bytesV_set]
  simp

theorem spliced_step {cur l : List UInt8} {off : Nat} {b : UInt8} (h : off + l.length < cur.length) : (spliced cur off l).set (off + l.length) b = spliced cur off (l ++ [b]) := by
  unfold spliced
  have h1 : (cur.take off).length = off := by simp; omega
  rw [List.set_append_right _ _ (by omega), h1, show off + l.length - off = l.length from by omega, List.set_append_right _ _ (Nat.le_refl _), Nat.sub_self, List.append_assoc, List.length_append]
  congr 2
  rw [List.drop_eq_getElem_cons (by omega)]
  rfl

theorem byte_of (v k : Nat) : (v : Int) / 2 ^ (8 * k) % 256 = ((UInt8.ofNat (v / 256 ^ k % 256)).toNat : Int) := by
  have h1 : (UInt8.ofNat (v / 256 ^ k % 256)).toNat = v / 256 ^ k % 256 := by simp
  have h2 : (2 : Int) ^ (8 * k) = ((256 ^ k : Nat) : Int) := by
    rw [Int.pow_mul, show (2 : Int) ^ 8 = ((256 : Nat) : Int) from by decide]
    exact (Int.natCast_pow 256 k).symm
  rw [h1, h2, Int.natCast_emod, Int.natCast_ediv]
  rfl

set_option maxHeartbeats 1000000 in
theorem lay_eq {w : World} {g off n cap : Nat} {cur : List UInt8} (h : bytesAt w g cur) (hn : n ≤ 8) (hf : off + n ≤ cur.length) (v : Nat) :
    Calls Try.prog 65 #[.slice (some ⟨g, off, none⟩) n cap, .int .u64 v] w fun e w' => e = .returned (.tuple #[]) ∧ bytesAt w' g (spliced cur off (le n v)) ∧ Fr (One g) w w' := by
  have h0 : bytesAt w g (spliced cur off (le 0 v)) := by
    unfold spliced le
    simpa using h
  have H0 := Lib.hid h0
  clear h h0
  go_enter Try.func65, Try.ntmps65
  go_wp2_with fail
  go_loopw [7] (fun i wr => ∃ k : Nat, k ≤ n ∧ i = .int .i64 k ∧ Hid (bytesAt wr g (spliced cur off (le k v))) ∧ Hid (Fr (One g) w wr)) (fun i _ => n - (intOf i).toNat)
  case atStart => exact ⟨0, Nat.zero_le _, rfl, H0, Lib.hid (Fr.refl _ _)⟩
  case round =>
    clear H0
    obtain ⟨k, hk, rfl, hb, fr⟩ := hrel
    by_cases hlt : k < n
    · have hls : (spliced cur off (le k v)).length = cur.length := spliced_len (by rw [le_len]; omega)
      have hc : wr.cell? ⟨g, off + k, none⟩ = some (.int .u8 (((spliced cur off (le k v)).getD (off + k) 0).toNat : Int)) := bytesV_cell hb.out (by omega)
      have hz := frozen_of_row wr g (off + k) _ _ hb.out
      generalize ((spliced cur off (le k v)).getD (off + k) 0).toNat = x at hc
      have hki : (k : Int) < (n : Int) := by omega
      go_wp2_with fail
      go_roundw
      case rel =>
        have e := byte_of v k
        rw [e]
        refine ⟨k + 1, by omega, by go_num, Lib.hid ?_, Lib.hid (fr.out.set1 _)⟩
        rw [le_snoc, ← spliced_step (by rw [le_len]; omega), le_len]
        exact bytesAt_set hb.out _ _
      case measure => simp [intOf]; omega
    · have : k = n := by omega
      subst this
      go_wp2_with fail
      go_end0
      exact ⟨rfl, hb.out, fr.out⟩

theorem equal_eq {w : World} {u v : Value} {xs ys : List UInt8} (ha : RdB w u xs) (hb : RdB w v ys) (hnb : ys.length ≤ 1000000) (r : Bool) (hr : decide (xs = ys) = r) :
    Calls Try.prog 63 #[u, v] w fun e w' => e = .returned (.bool r) ∧ Fr Nob w w' := by
  have HA := Lib.hid ha
  have HB := Lib.hid hb
  obtain ⟨a, ca, rfl, _⟩ := ha
  obtain ⟨b, cb, rfl, _⟩ := hb
  have HR := Lib.hid hr
  clear hr
  by_cases hl : xs.length = ys.length
  · have hle : ((xs.length : Int) == (ys.length : Int)) = true := by rw [hl]; simp
    have hle2 : ((xs.length : Int) != (ys.length : Int)) = false := by rw [hl]; simp
    have HL := Lib.hid hl
    rw [hl]
    clear hle hle2 hl
    go_enter Try.func63, Try.ntmps63
    go_wp2_with fail
    go_loopw [5, 13] (fun _ i wr => ∃ k : Nat, k ≤ ys.length ∧ i = .int .i64 k ∧ Hid (∀ j, j < k → xs.getD j 0 = ys.getD j 0) ∧ Hid (Fr Nob w wr)) (fun _ i _ => ys.length - (intOf i).toNat)
    case atStart => exact ⟨0, Nat.zero_le _, rfl, Lib.hid fun j h => absurd h (by omega), Lib.hid (Fr.refl _ _)⟩
    case round =>
      obtain ⟨k, hk, rfl, eq, fr⟩ := hrel
      by_cases hlt : k < ys.length
      · obtain ⟨a', ca', hea, hca⟩ := HA.out.nob fr.out
        obtain ⟨b', cb', heb, hcb⟩ := HB.out.nob fr.out
        rw [HL.out] at hea
        simp only [Value.slice.injEq, true_and] at hea heb
        obtain ⟨rfl, rfl⟩ := hea
        obtain ⟨rfl, rfl⟩ := heb
        obtain ⟨ga, oa, rfl, xa⟩ := hca (by rw [HL.out]; omega)
        obtain ⟨gb, ob, rfl, xb⟩ := hcb (by omega)
        have ya := xa k (by rw [HL.out]; omega)
        have yb := xb k hlt
        have hd : decide ((k : Int) < (ys.length : Int)) = true := by simpa using hlt
        have hki : (k : Int) < (ys.length : Int) := by omega
        obtain ⟨x, hx⟩ : ∃ x, x = xs.getD k 0 := ⟨_, rfl⟩
        obtain ⟨y, hy⟩ : ∃ y, y = ys.getD k 0 := ⟨_, rfl⟩
        rw [← hx] at ya
        rw [← hy] at yb
        have HX := Lib.hid hx
        have HY := Lib.hid hy
        clear xa xb hca hcb hx hy
        by_cases hxy : x = y
        · have hne : ((x.toNat : Int) != (y.toNat : Int)) = false := by rw [hxy]; simp
          have HXY := Lib.hid hxy
          clear hxy
          go_wp2_with fail
          go_quiet (fail)
          go_wp2_with fail
          go_roundw
          case rel =>
            refine ⟨k + 1, by omega, by go_num, Lib.hid fun j hj => ?_, Lib.hid (fr.out.drewN _)⟩
            by_cases e : j = k
            · rw [e, ← HX.out, ← HY.out, HXY.out]
            · exact eq.out j (by omega)
          case measure => simp [intOf]; omega
        · have hne : ((x.toNat : Int) != (y.toNat : Int)) = true := by
            rw [bne_iff_ne]
            intro e
            exact hxy (UInt8.toNat_inj.1 (by omega))
          have hrf : r = false := by
            rw [← HR.out, decide_eq_false_iff_not]
            intro e
            exact hxy (by rw [HX.out, HY.out, e])
          subst hrf
          clear hxy
          go_wp2_with fail
          go_quiet (fail)
          go_wp2_with fail
          go_ret
          exact ⟨rfl, fr.out.drewN _⟩
      · have hk2 : k = ys.length := by omega
        have hrt : r = true := by
          rw [← HR.out, decide_eq_true_iff]
          apply List.ext_getElem HL.out
          intro j h1 h2
          have := eq.out j (by omega)
          rw [List.getD_eq_getElem?_getD, List.getD_eq_getElem?_getD, List.getElem?_eq_getElem h1, List.getElem?_eq_getElem h2] at this
          exact this
        subst hrt
        subst hk2
        go_wp2_with fail
        go_ret
        exact ⟨rfl, fr.out⟩
  · have hle : ((xs.length : Int) != (ys.length : Int)) = true := by rw [bne_iff_ne]; omega
    have hrf : r = false := by
      rw [← HR.out, decide_eq_false_iff_not]
      intro e
      exact hl (by rw [e])
    subst hrf
    clear hl
    go_enter Try.func63, Try.ntmps63
    go_wp2_with fail
    go_ret
    exact ⟨rfl, Fr.refl _ _⟩

end Go.Proofs.Ytpdljgjofebgpaa
