/-
  The reference's Seg: Touch.
-/
import Derived.Test.YthcalhmiielfkaaSegS
namespace Go.Proofs.Ythcalhmiielfkaa
open Go.RowKit

def RTo (w : World) (q : Nat) (K : Nat → Prop) (w' : World) (R' : Nat → List Nd) : Prop := ∃ K', RAt w' q K' R' ∧ Fr K w w' ∧ ∀ k, K' k → K k ∨ w.heap.size ≤ k

theorem RIn.congr {w : World} {q : Nat} {V : Nat → Value} {R R' : Nat → List Nd} (s : RIn w q V R) (h : ∀ t, t < 3 → R t = R' t) : RIn w q V R' where
  top := s.top
  rows := fun t ht => by rw [← h t ht]; exact s.rows t ht
  sep := s.sep
  two := s.two

structure Uniq (R : Nat → List Nd) : Prop where
  nod : ∀ t, t < 3 → (ids (R t)).Nodup
  one : ∀ s t x, s < 3 → t < 3 → x ∈ ids (R s) → x ∈ ids (R t) → s = t

theorem RIn.flag {w : World} {q : Nat} {V : Nat → Value} {R : Nat → List Nd} (s : RIn w q V R) (u : Uniq R) {k : Nat} (hk : k < 3) {g cap : Nat} (hv : V k = .slice (some ⟨g, 0, none⟩) (R k).length cap) {j : Nat} (hj : j < (R k).length) {x : Int} (hx : ((R k).getD j (0, false)).1 = x) :
    RIn (w.setCell ⟨g, j * 2 + 1, none⟩ (.bool true)) q V (fun t => upd (R t) x) := by
  have hg : (V k).ownBlock = some g := by rw [hv]; rfl
  have hgq := s.sep k g hk hg
  have f : Fr (One g) w (w.setCell ⟨g, j * 2 + 1, none⟩ (.bool true)) := (Fr.refl _ w).set1 _
  have hmem : x ∈ ids (R k) := hx ▸ ids_of hj
  refine ⟨f.heap s.top fun h => hgq h.symm, fun t ht => ?_, s.sep, s.two⟩
  have hl : (upd (R t) x).length = (R t).length := by unfold upd; simp
  by_cases e : t = k
  · subst e
    rw [hl, upd_set (u.nod t hk) hj hx]
    have := s.rows t hk
    rw [hv] at this ⊢
    exact row_flag this hj hx
  · rw [upd_none fun h => e (u.one t k x ht hk h hmem)]
    exact f.ownsRow (s.rows t ht) fun i hi h => s.two t k i ht hk e hi (by rw [hg, h])

set_option maxHeartbeats 800000 in
theorem rtouch_in {w : World} {q : Nat} {K : Nat → Prop} {R : Nat → List Nd} (s : RAt w q K R) (u : Uniq R) (hn : rLen R ≤ 1000000) (x : Int) (b : Bool) (hb : rHas R x = b) :
    Calls Try.prog 17 #[.pointer (some ⟨q, 0, none⟩), .int .i64 x] w fun e w' => e = .returned (.bool b) ∧ RTo w q K w' (fun t => upd (R t) x) := by
  have U := Lib.hid u
  clear u
  go_enter Try.func17, Try.ntmps17
  go_wp2_with fail
  refine (all_eq w q).mono ?_
  rintro e w1 ⟨B, rfl, hB, f1, hlt⟩
  have HB := Lib.hid hB
  have F1 := Lib.hid f1
  obtain ⟨V, s, hK⟩ := s
  have HK := Lib.hid hK
  have s1 := Lib.hid (s.keep f1 fun _ _ h => h)
  clear hB f1 hK s hlt
  have hin := rHas_iff (R := R) (x := x)
  rw [hb] at hin
  have HI := Lib.hid hin
  clear hin hb
  go_wp2_with fail
  go_loop [6] (fun m => ∃ k : Nat, k ≤ 3 ∧ m = .int .i64 k ∧ Hid (∀ t, t < k → x ∉ ids (R t))) (fun m => 3 - (Lib.intOf m).toNat)
  case atStart => exact ⟨0, by omega, rfl, Lib.hid fun t h => absurd h (by omega)⟩
  case round =>
    obtain ⟨k, hk, rfl, no⟩ := hrel
    by_cases hk3 : k = 3
    · subst hk3
      have hbf : b = false := by
        cases b with
        | false => rfl
        | true => obtain ⟨t, ht, hm⟩ := HI.out.1 rfl; exact absurd hm (no.out t ht)
      subst hbf
      go_wp2_with fail
      go_ret
      exact ⟨rfl, K, ⟨V, s1.out.congr fun t ht => (upd_none (no.out t ht)).symm, HK.out⟩, F1.out.nob, fun _ h => .inl h⟩
    · have hk' : k < 3 := by omega
      have hp := HB.out k hk'
      obtain ⟨a, cap, hv, hc⟩ := RdNodes.of_row (s1.out.rows k hk')
      have cv := s1.out.cells.1 k hk'
      rw [hv] at cv
      have HC := Lib.hid hc
      have HV := Lib.hid hv
      have hle : (R k).length ≤ 1000000 := by
        unfold rLen at hn
        match k, hk' with
        | 0, _ => omega
        | 1, _ => omega
        | 2, _ => omega
        | k + 3, h => omega
      clear hc hv
      go_wp2_with fail
      go_loop [8] (fun m => ∃ j : Nat, j ≤ (R k).length ∧ m = .int .i64 j ∧ Hid (∀ i, i < j → ((R k).getD i (0, false)).1 ≠ x)) (fun m => (R k).length - (Lib.intOf m).toNat)
      case atStart => exact ⟨0, by omega, rfl, Lib.hid fun i h => absurd h (by omega)⟩
      case round =>
        obtain ⟨j, hj, rfl, ne⟩ := hrel
        by_cases hjl : j < (R k).length
        · obtain ⟨g, rfl, d1, d2⟩ := HC.out j hjl
          have hmem := ids_of hjl
          obtain ⟨y, hy⟩ : ∃ y, ((R k).getD j (0, false)).1 = y := ⟨_, rfl⟩
          have HY := Lib.hid hy
          rw [hy] at d1 hmem
          have HM := Lib.hid hmem
          clear hmem hy
          by_cases hyx : y = x
          · subst hyx
            have hbt : b = true := HI.out.2 ⟨k, hk', HM.out⟩
            subst hbt
            have hrow := s1.out.rows k hk'
            rw [HV.out] at hrow
            have hfz : w1.frozen? ⟨g, j * 2 + 1, none⟩ = false := by
              rcases hrow.2 with ⟨h, _⟩ | ⟨g', cap', cur, he, _, h1, _⟩
              · simp at h
              · simp only [Value.slice.injEq, Option.some.injEq, Addr.mk.injEq] at he
                obtain ⟨⟨rfl, _⟩, _⟩ := he
                exact frozen_of_row w1 g _ _ _ h1
            clear hrow
            go_wp2_with fail
            go_ret
            have hg : (V k).ownBlock = some g := by rw [HV.out]; rfl
            exact ⟨rfl, K, ⟨V, s1.out.flag U.out hk' HV.out hjl HY.out, HK.out⟩, F1.out.nob.setCell _ (fun _ => (HK.out g).2 (.inr ⟨k, hk', hg⟩)) _, fun _ h => .inl h⟩
          · have hbe : (y == x) = false := by simpa using hyx
            go_wp2_with fail
            go_round
            case rel =>
              refine ⟨j + 1, by omega, by go_num, Lib.hid fun i hi => ?_⟩
              by_cases e : i = j
              · rw [e, HY.out]; exact hyx
              · exact ne.out i (by omega)
            case measure => simp [Lib.intOf]; omega
        · have hjl2 : j = (R k).length := by omega
          subst hjl2
          have no2 := Lib.hid (ids_at ne.out)
          go_wp2_with fail
          go_round
          case rel =>
            refine ⟨k + 1, by omega, by go_num, Lib.hid fun t ht => ?_⟩
            by_cases e : t = k
            · rw [e]; exact no2.out
            · exact no.out t (by omega)
          case measure => simp [Lib.intOf]; omega

end Go.Proofs.Ythcalhmiielfkaa
