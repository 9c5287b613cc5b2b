/-
  The law EventNew, walked.
-/
import Derived.Test.YthfhlbnjahakaaaDoorEvIn
namespace Go.Proofs.YthfhlbnjahakaaaDoor
open Go.RowKit

theorem str_ne {a b : ByteArray} (h : ¬ a = b) : (a.toList == b.toList) = false := beq_eq_false_iff_ne.2 fun e => h (str_inj e)
theorem row_setS {w : World} {base n cap g size : Nat} {t : TypeId} {xs : List Value} (h : w.ownsRow base t size (.slice (some ⟨g, 0, none⟩) n cap) n xs) (i : Nat) (u : Value) : (w.setCell ⟨g, i, none⟩ u).ownsRow base t size (.slice (some ⟨g, 0, none⟩) n cap) n (xs.set i u) := by
  refine ⟨by rw [List.length_set]; exact h.1, .inr ?_⟩
  rcases h.2 with ⟨h1, _⟩ | ⟨g', cap', cur, h1, h2, h3, h4, h5, h6, h7⟩
  · cases h1
  · simp only [Value.slice.injEq, Option.some.injEq, Addr.mk.injEq, and_true] at h1
    obtain ⟨rfl, _, rfl⟩ := h1
    refine ⟨g, cap, cur.setIfInBounds i u, rfl, h2, heap_setCell_same w g i _ _ _ h3, h4, h5, by simpa using h6, ?_⟩
    rw [Array.toList_setIfInBounds, List.take_set, h7]
theorem row_cellS {w : World} {base n cap g : Nat} {t : TypeId} {xs : List Value} (h : w.ownsRow base t 1 (.slice (some ⟨g, 0, none⟩) n cap) n xs) {i : Nat} (hi : i < n) : (∃ v, w.cell? ⟨g, i, none⟩ = some v) ∧ w.frozen? ⟨g, i, none⟩ = false := by
  rcases h.2 with ⟨h1, _⟩ | ⟨g', cap', cur, h1, h2, h3, h4, h5, h6, h7⟩
  · cases h1
  · simp only [Value.slice.injEq, Option.some.injEq, Addr.mk.injEq, and_true] at h1
    obtain ⟨rfl, _, rfl⟩ := h1
    refine ⟨⟨cur[i]'(by omega), ?_⟩, frozen_of_row w g i _ _ h3⟩
    rw [cell_of_row w g i _ _ (0, 0) h3, Array.getElem?_eq_getElem (by omega)]
theorem own_some {w : World} {base n : Nat} {t : TypeId} {v : Value} {xs : List Value} (h : w.ownsRow base t 1 v n xs) (hn : 0 < n) : ∃ g c, v = .slice (some ⟨g, 0, none⟩) n c ∧ base ≤ g := by
  rcases h.2 with ⟨rfl, h1⟩ | ⟨g, cap, cur, rfl, h1, _⟩
  · omega
  · exact ⟨g, cap, rfl, h1⟩

set_option maxHeartbeats 8000000 in
set_option maxRecDepth 100000 in
theorem eventNew_walk (A : Option Addr) (n cap : Nat) (l : List ByteArray) (w : World) (h : InS w A n cap l) :
    Calls Tryd.prog 6 #[.slice A n cap] w fun e w' => e = .returned (.bool true) ∧ Fr Nob w w' := by
  have HI := Lib.hid h
  clear h
  by_cases hn : 100 < n
  · have g : (100 : Int) < (n : Int) := by omega
    clear hn
    go_enter Tryd.func6, Tryd.ntmps6
    go_wp2_with fail
    refine (awake_ok w).mono ?_
    rintro e w0 ⟨rfl, f0⟩
    have F0 := Lib.hid f0
    clear f0
    go_wp2_with fail
    go_ret
    exact ⟨rfl, F0.out⟩
  have g : ¬ (100 : Int) < (n : Int) := by omega
  have hnb : n ≤ 100 := by omega
  clear hn
  by_cases hn0 : n = 0
  · subst hn0
    go_enter Tryd.func6, Tryd.ntmps6
    go_wp2_with fail
    refine (awake_ok w).mono ?_
    rintro e w0 ⟨rfl, f0⟩
    have F0 := Lib.hid f0
    clear f0
    go_wp2_with (with_reducible refine wpList_app_none' (o := ⟨some 14, _, _, _, _, _⟩) rfl (.tmp 12) (.tmp 13) 24 rfl 9 #[.string ⟨#[]⟩] 1 16 Tryd.underlying24 str_info (some ⟨w0.heap.size, 0, none⟩) 0 0 (Nat.le_refl _) rfl A cap rfl ?_)
    go_wp2_with fail
    refine (keysF_get ⟨#[]⟩ ⟨#[]⟩ (.slice (some ⟨w0.heap.size, 0, none⟩) 0 0) 0 0 0 0 false false false false (l := []) ⟨_, 0, rfl, Nat.le_refl _, fun h => absurd h (Nat.lt_irrefl _)⟩ (by simp)).mono ?_
    rintro e w2 ⟨v2, rfl, o2, f2⟩
    obtain ⟨a2, c2, rfl⟩ := own_sl o2.out
    have F2 : Fr Nob w w2 := Fr.trans' (by repeat first | exact F0.out | refine Fr.alloc ?_ _) f2.out
    clear o2 f2
    go_wp2_with fail
    go_loopw [5] (fun i wr => ∃ k : Nat, k ≤ 0 ∧ i = .int .i64 k ∧ Hid (Fr Nob w wr)) (fun i _ => 0)
    case atStart => exact ⟨0, Nat.le_refl _, rfl, Lib.hid F2⟩
    case round =>
      clear F2
      obtain ⟨k, hk, rfl, F2⟩ := hrel
      obtain rfl : k = 0 := by omega
      go_wp2_with fail
      go_loopw [6] (fun i wr => ∃ k : Nat, k ≤ 0 ∧ i = .int .i64 k ∧ Hid (Fr Nob w wr)) (fun i _ => 0)
      case atStart => exact ⟨0, Nat.le_refl _, rfl, F2⟩
      case round =>
        clear F2
        obtain ⟨k, hk, rfl, F2⟩ := hrel
        obtain rfl : k = 0 := by omega
        go_wp2_with fail
        go_ret
        exact ⟨rfl, F2.out⟩
  · have hnp : 0 < n := by omega
    have hl := Lib.hid HI.out.len
    obtain ⟨A', c', he, _, hcell⟩ := HI.out.rd
    injection he with he1 he2 he3
    subst he1
    obtain ⟨ga, oa, rfl, hc⟩ := hcell (by rw [hl.out]; exact hnp)
    have HC := Lib.hid hc
    clear hcell hc he2 he3
    go_enter Tryd.func6, Tryd.ntmps6
    go_wp2_with fail
    refine (awake_ok w).mono ?_
    rintro e w0 ⟨rfl, f0⟩
    have F0 := Lib.hid f0
    have own := Lib.hid (World.ownsRow_made w0 #[] 0 (Nat.le_refl _) (Nat.zero_le _) rfl : (w0.alloc (.cells #[] 9)).ownsRow w0.heap.size 9 1 (.slice (some ⟨w0.heap.size, 0, none⟩) 0 0) 0 [])
    have FA := Lib.hid (f0.trans' (frB (w := w0) (.cells #[] 9)))
    have NEWS : Hid (∀ j u, (strsV l)[j]? = some u → (w0.alloc (.cells #[] 9)).cell? ((⟨ga, oa, none⟩ : Addr).add j) = some u) := Lib.hid fun j u hu => by
      unfold strsV at hu
      rw [List.getElem?_map] at hu
      obtain ⟨k, hk, rfl⟩ := Option.map_eq_some_iff.1 hu
      rw [Addr.add_lit]
      exact FA.out.cell (HC.out j k hk) fun h => h
    have HLN : Hid ((strsV l).length = n * 1) := Lib.hid (by unfold strsV; rw [List.length_map, hl.out, Nat.mul_one])
    clear f0
    go_wp2_with (with_reducible refine wpList_app (o := ⟨some 14, _, _, _, _, _⟩) rfl (.tmp 12) (.tmp 13) 24 rfl 9 #[.string ⟨#[]⟩] 1 16 Tryd.underlying24 str_info rfl (by omega) w0.heap.size (.slice (some ⟨w0.heap.size, 0, none⟩) 0 0) 0 [] rfl own.out ⟨ga, oa, none⟩ n cap (strsV l) rfl HLN.out NEWS.out (strsV_one _) (by omega) (by omega) (by simp) ?_)
    intro v1 w1 o1 f1 h1
    have O1 : Hid (w1.ownsRow w0.heap.size 9 1 v1 n (strsV l)) := by
      exact o1
    have F1 : Hid (Fr Nob w w1) := Lib.hid (FA.out.trans f1.out fun k hk e => by
      simp [Value.ownBlock] at e
      have := F0.out.size
      omega)
    clear own NEWS HLN FA o1 f1 h1 F0
    obtain ⟨g1, c1, rfl, hg1⟩ := own_some O1.out hnp
    have CB := heap_alloc_new w1 (.cells #[.string ⟨#[103, 101, 116]⟩, .string ⟨#[]⟩, .slice (some ⟨g1, 0, none⟩) n c1, .string ⟨#[]⟩, .int .u32 0, .int .i64 0, .int .u64 0, .int .u64 0, .bool false, .bool false, .bool false, .bool false] 28)
    have fb := frB (w := w1) (.cells #[.string ⟨#[103, 101, 116]⟩, .string ⟨#[]⟩, .slice (some ⟨g1, 0, none⟩) n c1, .string ⟨#[]⟩, .int .u32 0, .int .i64 0, .int .u64 0, .int .u64 0, .bool false, .bool false, .bool false, .bool false] 28)
    have F2 := Lib.hid (F1.out.trans' fb)
    have O2 := Lib.hid (fb.ownsRow O1.out fun _ _ h => h)
    obtain ⟨B, hB⟩ : ∃ B, B = w1.heap.size := ⟨_, rfl⟩
    rw [← hB] at CB
    have HB := Lib.hid hB.symm
    have HCB := Lib.hid CB
    clear CB fb hB O1 F1
    go_wp2_with fail
    rw [HB.out]
    have hlb : l.length ≤ 1000000000 := by rw [hl.out]; omega
    generalize w1.alloc (.cells #[.string ⟨#[103, 101, 116]⟩, .string ⟨#[]⟩, .slice (some ⟨g1, 0, none⟩) n c1, .string ⟨#[]⟩, .int .u32 0, .int .i64 0, .int .u64 0, .int .u64 0, .bool false, .bool false, .bool false, .bool false] 28) = w2 at *
    refine (keysF_get ⟨#[]⟩ ⟨#[]⟩ (.slice (some ⟨g1, 0, none⟩) n c1) 0 0 0 0 false false false false (own_rd O2.out) hlb).mono ?_
    rintro e w3 ⟨v3, rfl, o3, f3⟩
    have hl2 := hl.out
    rw [hl2] at o3
    obtain ⟨g3, c3, rfl, hg3⟩ := own_some o3.out hnp
    have F3 := Lib.hid (F2.out.trans' f3.out)
    have O1 := Lib.hid (f3.out.ownsRow O2.out fun _ _ h => h)
    have H3 := Lib.hid (f3.out.heap HCB.out fun h => h)
    have hne : Hid (g1 ≠ g3 ∧ B ≠ g3 ∧ w.heap.size ≤ g3) := Lib.hid ⟨fun e => by
      have := (O2.out.lt g1 (by rfl)).2
      omega, fun e => by
      have := lt_of_block HCB.out
      omega, by have := F2.out.size; omega⟩
    clear O2 F2 f3 HCB HB hl2
    go_wp2_with fail
    go_loopw [5] (fun i wr => ∃ (k : Nat) (xs : List Value), k ≤ n ∧ i = .int .i64 k ∧ Hid (wr.ownsRow w2.heap.size 9 1 (.slice (some ⟨g3, 0, none⟩) n c3) n xs) ∧ Hid (Fr (One g3) w3 wr)) (fun i _ => n - (intOf i).toNat)
    case atStart => exact ⟨0, _, Nat.zero_le _, rfl, o3, Lib.hid (Fr.refl _ _)⟩
    case round =>
      clear o3
      obtain ⟨k, xs, hk, rfl, o, f⟩ := hrel
      by_cases hlt : k < n
      · obtain ⟨⟨v0, q0⟩, q1⟩ := row_cellS o.out hlt
        have o4 := Lib.hid (row_setS o.out k (.string ⟨#[111, 116, 104, 101, 114]⟩))
        have f4 := Lib.hid (f.out.set1 (o := k) (.string ⟨#[111, 116, 104, 101, 114]⟩))
        go_wp2_with fail
        go_roundw
        case rel => exact ⟨k + 1, _, by omega, by go_num, o4, f4⟩
        case measure => simp [intOf]; omega
      · have : k = n := by omega
        subst this
        have R4 : Hid (RdS wr (.slice (some ⟨g1, 0, none⟩) k c1) l) := Lib.hid ((own_rd O1.out).keep f.out fun x hx e => hne.out.1 (by
          have : g1 = x := by simpa [Value.ownBlock] using hx
          rw [this]; exact e))
        have H4 := Lib.hid (f.out.heap H3.out hne.out.2.1)
        have F4 : Hid (Fr Nob w wr) := Lib.hid (F3.out.trans f.out fun x hx e => by
          have : x = g3 := e
          have := hne.out.2.2
          omega)
        clear o f O1 H3 F3
        go_wp2_with fail
        go_loopw [6] (fun i wq => ∃ k2 : Nat, k2 ≤ k ∧ i = .int .i64 k2 ∧ Hid (RdS wq (.slice (some ⟨g1, 0, none⟩) k c1) l) ∧ Hid (wq.heap[B]? = some (.cells #[.string ⟨#[103, 101, 116]⟩, .string ⟨#[]⟩, .slice (some ⟨g1, 0, none⟩) k c1, .string ⟨#[]⟩, .int .u32 0, .int .i64 0, .int .u64 0, .int .u64 0, .bool false, .bool false, .bool false, .bool false] 28 (0, 0))) ∧ Hid (Fr Nob w wq)) (fun i _ => k - (intOf i).toNat)
        case atStart => exact ⟨0, Nat.zero_le _, rfl, R4, H4, F4⟩
        case round =>
          clear R4 H4 F4
          obtain ⟨k2, hk2, rfl, R, H, F⟩ := hrel
          by_cases hlt2 : k2 < k
          · obtain ⟨x, hx⟩ : ∃ x, l[k2]? = some x := ⟨_, List.getElem?_eq_getElem (by rw [hl.out]; exact hlt2)⟩
            have d1 := F.out.cell (HC.out k2 x hx) fun h => h
            obtain ⟨A', c', he, _, hcell⟩ := R.out
            injection he with he1 he2 he3
            subst he1
            obtain ⟨g', o', he', hc'⟩ := hcell (by rw [hl.out]; omega)
            cases he'
            have d2 := hc' k2 x hx
            rw [Nat.zero_add] at d2
            have d3 : wr.cell? ⟨B, 2, none⟩ = some (.slice (some ⟨g1, 0, none⟩) k c1) := cell_of_row wr B 2 _ _ (0, 0) H.out
            clear hcell hc' he2 he3 hx
            go_wp2_with fail
            go_quiet (fail)
            go_wp2_with fail
            go_roundw
            case rel => exact ⟨k2 + 1, by omega, by go_num, Lib.hid (R.out.nob ((Fr.refl Nob _).drewN nq)), H, Lib.hid (F.out.trans' ((Fr.refl Nob _).drewN nq))⟩
            case measure => simp [intOf]; omega
          · have : k2 = k := by omega
            subst this
            go_wp2_with fail
            go_ret
            exact ⟨rfl, F.out⟩
end Go.Proofs.YthfhlbnjahakaaaDoor
