/-
  The law SegShares, walked: behind each Add hot has at most a fifth (rounded up), warm at most two fifths of all.
-/
import Derived.Test.YthcalhmiielfkaaSegActs
namespace Go.Proofs.Ythcalhmiielfkaa
open Go.RowKit

theorem Sunk.hot {q : Nat} {S S' : Sg} (k : Sunk q 1 S S') : S'.h = S.h := by
  generalize ht : 1 = t at k
  induction k with
  | done => rfl
  | more h hl _ ih =>
    subst ht
    rw [ih]
    unfold Sg.sink
    split <;> rfl

theorem Added.fits {S S' : Sg} {x : Int} (h : Added S x S') : S'.h.length ≤ (S'.tot + 4) / 5 ∧ S'.m.length ≤ 2 * S'.tot / 5 := by
  have ht : S'.tot = S.tot + 1 := by
    obtain ⟨S1, k1, k2⟩ := h
    rw [k2.tot (by omega), k1.tot (by omega), Sg.tot_pushed _ _ (by omega)]
  obtain ⟨S1, k1, k2⟩ := h
  have f1 := k1.fit
  have f2 := k2.fit
  refine ⟨?_, ?_⟩
  · rw [k2.hot, ht]
    exact f1
  · rw [ht]
    exact f2

theorem AddTo.tot {S S' : Sg} {x : Int} (h : AddTo S x S') : S'.tot ≤ S.tot + 1 := by
  obtain ⟨_, h1, h2⟩ := h
  cases hs : (getM S.I x).isSome with
  | true => rw [h1 hs]; omega
  | false =>
    obtain ⟨S1, k1, k2⟩ := h2 hs
    rw [k2.tot (by omega), k1.tot (by omega), Sg.tot_pushed _ _ (by omega)]
    omega
theorem RemTo.tot {S S' : Sg} {x : Int} (h : RemTo S x S') : S'.tot ≤ S.tot := by
  obtain ⟨_, h1, h2⟩ := h
  cases hs : (getM S.I x).isSome with
  | true =>
    obtain ⟨t, a, b, ht, hl, rfl⟩ := h1 hs
    have := S.tot_set ht (a ++ b)
    rw [hl] at this
    simp at this
    show (S.set t (a ++ b)).tot ≤ _
    omega
  | false => rw [h2 hs]; omega
theorem Left.tot {S S' : Sg} {x : Int} (h : Left S x S') : S'.tot + 1 = S.tot := by
  have : ∀ {t : Nat} {l : List Int}, t < 3 → S.get t = l ++ [x] → ((S.set t l).gone x).tot + 1 = S.tot := by
    intro t l ht hl
    have := S.tot_set ht l
    rw [hl] at this
    simp at this
    show (S.set t l).tot + 1 = _
    omega
  cases h with
  | cold h => exact this (by omega) h
  | warm _ h => exact this (t := 1) (by omega) h
  | hot _ _ h => exact this (t := 0) (by omega) h
theorem EvTo.tot {S S' : Sg} {x : Int} {ok : Bool} (h : EvTo S x ok S') : S'.tot ≤ S.tot := by
  obtain ⟨_, S1, m, h⟩ := h
  rcases h with ⟨_, h⟩ | ⟨_, _, _, rfl⟩
  · have := h.tot
    have := m.tot
    omega
  · rw [m.tot]
    exact Nat.le_refl _

set_option maxHeartbeats 3200000 in
theorem segShares_walk (A : Option Addr) (n cap : Nat) (z : Nat → Int × Int) (w : World) (hz : ActRow w A n z) :
    Calls Try.prog 8 #[.slice A n cap] w fun e w' => e = .returned (.bool true) ∧ Fr Nob w w' := by
  have Z := Lib.hid hz
  clear hz
  by_cases hn : n ≤ 120
  · go_enter Try.func8, Try.ntmps8
    go_wp2_with fail
    refine (awake_ok w).mono ?_
    rintro e w0 ⟨rfl, f0⟩
    have f0 := Lib.hid f0
    go_wp2_with fail
    refine (new_new w0 w f0.out).mono ?_
    rintro e w1 ⟨p, rfl, s1⟩
    have s1 := Lib.hid s1
    have o1 := Lib.hid Sg.Ok.none
    go_wp2_with fail
    go_loopw [4] (fun i wr => ∃ (k : Nat) (S : Sg), k ≤ n ∧ i = .int .i64 k ∧ Hid (SegNew w p wr S) ∧ Hid S.Ok ∧ Hid (S.tot ≤ k)) (fun i _ => n - (Lib.intOf i).toNat)
    case atStart => exact ⟨0, _, by omega, rfl, s1, o1, Lib.hid (by decide)⟩
    case round =>
      clear s1 o1
      obtain ⟨k, S, hk, rfl, s2, o2, t2⟩ := hrel
      by_cases hkn : k < n
      · obtain ⟨b, o, rfl⟩ := Z.out.addr (by omega)
        obtain ⟨c1, c2⟩ := (Z.out.keep s2.out.fr).cell rfl hkn
        have i1 := Z.out.op k hkn
        generalize (z k).1 = op at c1 i1
        generalize (z k).2 = id at c2
        have T3 := Lib.hid (Nat.le_trans t2.out (show k ≤ 10000 by omega))
        by_cases h0 : op = 0
        · subst h0
          go_wp2_with fail
          refine (add_new s2.out o2.out T3.out id).mono ?_
          rintro e w3 ⟨rfl, S3, k3, h3⟩
          have s3 := Lib.hid (k3.1 _ s2.out)
          have o3 := Lib.hid h3.1
          have t3 := Lib.hid (Nat.le_trans h3.tot (Nat.succ_le_succ t2.out))
          cases hs : (getM S.I id).isSome with
          | true =>
            rw [Bool.not_true]
            clear hs k3 h3
            go_wp2_with fail
            go_roundw
            case rel => exact ⟨k + 1, S3, by omega, by go_num, s3, o3, t3⟩
            case measure => simp [Lib.intOf]; omega
          | false =>
            obtain ⟨f1, f2⟩ := (h3.2.2 hs).fits
            have F1 := Lib.hid f1
            have F2 := Lib.hid f2
            rw [Bool.not_false]
            clear hs k3 h3 f1 f2
            go_wp2_with fail
            refine (lists_new s3.out (Nat.le_trans t3.out (by omega))).mono ?_
            rintro e w4 ⟨a, b', c, rfl, k4, g1, g2, _⟩
            obtain ⟨xa, xc, rfl, _⟩ := g1.rd
            obtain ⟨ya, yc, rfl, _⟩ := g2.rd
            have s4 := Lib.hid (k4.1 _ s3.out)
            clear k4 g1 g2 s3
            go_wp2_with fail
            refine (len_new s4.out o3.out).mono ?_
            rintro e w' ⟨rfl, rfl⟩
            have hb1 := F1.out
            have hb2 := F2.out
            have hb3 := t3.out
            generalize S3.h.length = lh at hb1
            generalize S3.m.length = lm at hb2
            generalize ht : S3.tot = tt at hb1 hb2 hb3
            have e1 : ¬ ((tt : Int) + 4) / 5 < (lh : Int) := by omega
            have e2 : ¬ (2 * (tt : Int)) / 5 < (lm : Int) := by omega
            have e3 : (tt : Int) ≤ 10000 := by omega
            have t3 := Lib.hid (show S3.tot ≤ k + 1 from t3.out)
            clear hb1 hb2 ht F1 F2
            go_wp2_with fail
            go_roundw
            case rel => exact ⟨k + 1, S3, by omega, by go_num, s4, o3, t3⟩
            case measure => simp [Lib.intOf]; omega
        · by_cases h1 : op = 1
          · subst h1
            go_wp2_with fail
            refine (touch_new s2.out id).mono ?_
            rintro e w3 ⟨rfl, k3⟩
            have s3 := Lib.hid (k3.1 _ s2.out)
            have o3 : Hid (if (getM S.I id).isSome then S.touched id else S).Ok := Lib.hid (by
              split
              · rename_i h; exact o2.out.touch h
              · exact o2.out)
            have t3 : Hid ((if (getM S.I id).isSome then S.touched id else S).tot ≤ k + 1) := Lib.hid (by
              have := t2.out
              split
              · show S.tot ≤ _; omega
              · omega)
            generalize (if (getM S.I id).isSome then S.touched id else S) = S3 at s3 o3 t3
            generalize (getM S.I id).isSome = b0
            clear k3
            go_wp2_with fail
            go_roundw
            case rel => exact ⟨k + 1, S3, by omega, by go_num, s3, o3, t3⟩
            case measure => simp [Lib.intOf]; omega
          · by_cases h2 : op = 2
            · subst h2
              go_wp2_with fail
              refine (remove_new s2.out o2.out T3.out id).mono ?_
              rintro e w3 ⟨rfl, S3, k3, h3⟩
              have s3 := Lib.hid (k3.1 _ s2.out)
              have o3 := Lib.hid h3.1
              have t3 := Lib.hid (Nat.le_trans h3.tot (Nat.le_trans t2.out (Nat.le_succ k)))
              generalize (getM S.I id).isSome = b0
              clear k3 h3
              go_wp2_with fail
              go_roundw
              case rel => exact ⟨k + 1, S3, by omega, by go_num, s3, o3, t3⟩
              case measure => simp [Lib.intOf]; omega
            · have b0 : (op == 0) = false := by simpa using h0
              have b1 : (op == 1) = false := by simpa using h1
              have b2 : (op == 2) = false := by simpa using h2
              go_wp2_with fail
              refine (evict_new s2.out o2.out T3.out).mono ?_
              rintro e w3 ⟨x, ok, S3, rfl, k3, h3⟩
              have s3 := Lib.hid (k3.1 _ s2.out)
              have o3 := Lib.hid h3.1
              have t3 := Lib.hid (Nat.le_trans h3.tot (Nat.le_trans t2.out (Nat.le_succ k)))
              clear k3 h3
              go_wp2_with fail
              go_roundw
              case rel => exact ⟨k + 1, S3, by omega, by go_num, s3, o3, t3⟩
              case measure => simp [Lib.intOf]; omega
      · have hkn : k = n := by omega
        subst hkn
        go_wp2_with fail
        go_ret
        exact ⟨rfl, s2.out.fr⟩
  · go_enter Try.func8, Try.ntmps8
    go_wp2_with fail
    refine (awake_ok w).mono ?_
    rintro e w0 ⟨rfl, f0⟩
    have f0 := Lib.hid f0
    go_wp2_with fail
    go_ret
    exact ⟨rfl, f0.out⟩

end Go.Proofs.Ythcalhmiielfkaa
