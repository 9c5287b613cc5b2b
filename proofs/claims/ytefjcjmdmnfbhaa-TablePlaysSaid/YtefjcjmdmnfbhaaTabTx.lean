/-
  Lists of texts that are read; texts, holds of the law; sorted lists.
-/
import Derived.Test.YtefjcjmdmnfbhaaTabL
namespace Go.Proofs.Ytefjcjmdmnfbhaa
open Go.RowKit

/-- Slice v is read as the texts l. -/
def RdS (w : World) (v : Value) (l : List ByteArray) : Prop :=
  ∃ A cap, v = .slice A l.length cap ∧ (0 < l.length → ∃ g o, A = some ⟨g, o, none⟩ ∧ ∀ j k, l[j]? = some k → w.cell? ⟨g, o + j, none⟩ = some (.string k))
theorem RdS.nil (w : World) (A : Option Addr) (cap : Nat) : RdS w (.slice A 0 cap) [] := ⟨A, cap, rfl, fun h => absurd h (Nat.lt_irrefl _)⟩
theorem RdS.of_row {w : World} {base n : Nat} {v : Value} {l : List ByteArray} (h : w.ownsRow base 9 1 v n (strsV l)) : RdS w v l := by
  have hl : l.length = n := by simpa [strsV] using h.1
  subst hl
  obtain ⟨a, cap, rfl, h1, h2, h3⟩ := own_shape h
  refine ⟨a, cap, rfl, fun h0 => ?_⟩
  obtain ⟨b, rfl⟩ : ∃ b, a = some b := by
    cases a with
    | none => have := h3 rfl; omega
    | some b => exact ⟨b, rfl⟩
  obtain ⟨g, rfl, _⟩ := h2 b rfl
  refine ⟨g, 0, rfl, fun j k hk => ?_⟩
  have := (row_at' h (i := j) (v := .string k) (by unfold strsV; rw [List.getElem?_map, hk]; rfl)).1
  rw [Nat.zero_add]
  exact this
theorem RdS.keep {w w' : World} {S : Nat → Prop} {v : Value} {l : List ByteArray} (h : RdS w v l) (f : Fr S w w') (hn : ∀ k, v.ownBlock = some k → ¬ S k) : RdS w' v l := by
  obtain ⟨A, cap, rfl, h⟩ := h
  refine ⟨A, cap, rfl, fun h0 => ?_⟩
  obtain ⟨g, o, rfl, hc⟩ := h h0
  exact ⟨g, o, rfl, fun j k hk => f.cell (hc j k hk) (hn g (by cases o <;> rfl))⟩
theorem RdS.nob {w w' : World} {v : Value} {l : List ByteArray} (h : RdS w v l) (f : Fr Nob w w') : RdS w' v l := h.keep f fun _ _ h => h

set_option maxHeartbeats 4000000 in
set_option maxRecDepth 100000 in
theorem texts_eq {w : World} {v u : Value} {a b : List ByteArray} (ha : RdS w v a) (hb : RdS w u b) (hn : a.length ≤ 1000000000) :
    Calls Try.prog 25 #[v, u] w fun e w' => e = .returned (.bool (decide (a = b))) ∧ ∃ n, w' = w.drewN n := by
  obtain ⟨A, ca, rfl, ha⟩ := ha
  obtain ⟨B, cb, rfl, hb⟩ := hb
  by_cases hl : a.length = b.length
  · have HA := Lib.hid ha
    have HB := Lib.hid hb
    have HL := Lib.hid hl
    rw [← hl]
    clear ha hb hl
    go_enter Try.func25, Try.ntmps25
    go_wp2_with fail
    go_loopw [5] (fun i wr => ∃ k : Nat, k ≤ a.length ∧ i = .int .i64 k ∧ Hid (a.take k = b.take k) ∧ ∃ n, wr = w.drewN n) (fun i _ => a.length - (intOf i).toNat)
    case atStart => exact ⟨0, Nat.zero_le _, rfl, Lib.hid rfl, 0, rfl⟩
    case round =>
      obtain ⟨k, hk, rfl, ht, n, rfl⟩ := hrel
      by_cases hlt : k < a.length
      · obtain ⟨g, o, rfl, c1⟩ := HA.out (by omega)
        obtain ⟨g2, o2, rfl, c2⟩ := HB.out (by have := HL.out; omega)
        obtain ⟨x, hx⟩ : ∃ x, a[k]? = some x := ⟨_, List.getElem?_eq_getElem hlt⟩
        obtain ⟨y, hy⟩ : ∃ y, b[k]? = some y := ⟨_, List.getElem?_eq_getElem (by have := HL.out; omega)⟩
        have d1 := c1 k x hx
        have d2 := c2 k y hy
        have HX := Lib.hid hx
        have HY := Lib.hid hy
        clear c1 c2 hx hy
        by_cases hxy : x = y
        · subst hxy
          have ht2 : Hid (a.take (k + 1) = b.take (k + 1)) := Lib.hid (by rw [List.take_add_one, List.take_add_one, HX.out, HY.out, ht.out])
          go_wp2_with fail
          go_quiet (fail)
          go_wp2_with fail
          go_roundw
          case rel => exact ⟨k + 1, by omega, by go_num, ht2, _, rfl⟩
          case measure => simp [intOf]; omega
        · have hne := str_ne hxy
          have hd : Hid (decide (a = b) = false) := Lib.hid (decide_eq_false fun e => hxy (by
            have h1 := HX.out
            rw [e, HY.out] at h1
            injection h1 with h1
            exact h1.symm))
          go_wp2_with fail
          go_quiet (fail)
          go_wp2_with fail
          go_ret
          rw [hd.out]
          exact ⟨rfl, _, World.drewN_drewN ..⟩
      · have : k = a.length := by omega
        subst this
        have hd : Hid (decide (a = b) = true) := Lib.hid (decide_eq_true (by
          have h1 := ht.out
          rw [List.take_length, HL.out, List.take_length] at h1
          exact h1))
        go_wp2_with fail
        go_ret
        rw [hd.out]
        exact ⟨rfl, n, rfl⟩
  · have hd : Hid (decide (a = b) = false) := Lib.hid (decide_eq_false fun e => hl (by rw [e]))
    have hl' : ¬ (a.length : Int) = (b.length : Int) := by omega
    clear ha hb hl
    go_enter Try.func25, Try.ntmps25
    go_wp2_with fail
    go_ret
    rw [hd.out]
    exact ⟨rfl, 0, rfl⟩
end Go.Proofs.Ytefjcjmdmnfbhaa
