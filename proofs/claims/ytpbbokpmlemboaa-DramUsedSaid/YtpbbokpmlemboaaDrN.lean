/-
  dram: the contract of New.
-/
import Derived.Test.YtpbbokpmlemboaaDrB
namespace Go.Proofs.Ytpbbokpmlemboaa
open Go.RowKit Sl

def newC (n : Nat) : DC := ⟨List.replicate n Pg.new, Tb.newK 16, fun _ => Sg.none, []⟩
theorem new_none (n : Nat) (x : Int) : isTaken (List.replicate n Pg.new) x = false := by
  unfold isTaken
  by_cases h0 : 0 ≤ x
  · rw [decide_eq_true h0]
    by_cases h1 : x / 64 < ((List.replicate n Pg.new).length : Int)
    · rw [List.length_replicate] at h1
      rw [getD_of (by rw [List.length_replicate]; omega), List.getElem_replicate]
      simp [Pg.new]
    · rw [decide_eq_false h1]; rfl
  · rw [decide_eq_false h0]; rfl
theorem newC_ok (n : Nat) : (newC n).Ok := by
  refine ⟨fun q hq => ?_, Tb.newK_ok (by omega) (by omega), fun i hi => Sg.Ok.none, List.nodup_nil, (fun x o h => by cases h), (fun k x h => by cases h), fun x => (new_none n x).symm, fun i x hi => ?_, usSum_new n, rfl, (fun x o h => by cases h)⟩
  · rw [(List.mem_replicate.1 hq).2]
    exact .inl ⟨rfl, rfl, fun _ => rfl⟩
  · show (getM Sg.none.I x).isSome = true ↔ isTaken (List.replicate n Pg.new) x = true ∧ _
    rw [new_none]
    simp [Sg.none, getM_nil]

abbrev qv (P : DP) (k j : Nat) : Value := if j < k then ptr (P.q j) else .pointer none
structure NewIn (w0 w : World) (P : DP) (O : Nat → Nat → Prop) (k n : Nat) : Prop where
  top : w.heap[P.c]? = some (.cells #[ptr P.p, ptr P.t, qv P k 0, qv P k 1, qv P k 2, qv P k 3, qv P k 4, qv P k 5, .map (some P.r)] 64 (0, 0))
  slab : SlabAt w P.p P.b (List.replicate n Pg.new)
  tab : Tb.TabIn w P.W P.t (O 1) (Tb.newK 16)
  seg : ∀ i, i < k → SegAt w (P.q i) (O (4 + i)) Sg.none
  map : MapIs (Value.int .i64) outV w P.r []
  o0 : ∀ b, O 0 b ↔ b = P.c
  o2 : ∀ b, O 2 b ↔ b = P.p ∨ b = P.b
  o3 : ∀ b, O 3 b ↔ b = P.r
  oe : ∀ i b, 4 + k ≤ i → ¬ O i b
  dis : ∀ i j b, i < 10 → j < 10 → O i b → O j b → i = j
  lt : ∀ i b, O i b → b < w.heap.size
  low : ∀ i b, O i b → w0.heap.size ≤ b
  fr : Fr Nob w0 w

theorem set_six {a b m v : Value} {f : Nat → Value} {k : Nat} (hk : k < 6) : (#[a, b, f 0, f 1, f 2, f 3, f 4, f 5, m] : Array Value).setIfInBounds (2 + k) v =
    #[a, b, (fun j => if j = k then v else f j) 0, (fun j => if j = k then v else f j) 1, (fun j => if j = k then v else f j) 2, (fun j => if j = k then v else f j) 3, (fun j => if j = k then v else f j) 4, (fun j => if j = k then v else f j) 5, m] := by
  rcases (by omega : k = 0 ∨ k = 1 ∨ k = 2 ∨ k = 3 ∨ k = 4 ∨ k = 5) with rfl | rfl | rfl | rfl | rfl | rfl <;> rfl

theorem NewIn.cell {w0 w : World} {P : DP} {O : Nat → Nat → Prop} {k n : Nat} (h : NewIn w0 w P O k n) (hk : k < 6) : w.cell? ⟨P.c, 2 + k, none⟩ = some (.pointer none) ∧ w.frozen? ⟨P.c, 2 + k, none⟩ = false := by
  refine ⟨?_, frozen_of_row w P.c _ _ _ h.top⟩
  rw [cell_of_row w P.c (2 + k) _ _ (0, 0) h.top]
  rcases (by omega : k = 0 ∨ k = 1 ∨ k = 2 ∨ k = 3 ∨ k = 4 ∨ k = 5) with rfl | rfl | rfl | rfl | rfl | rfl <;> simp

theorem NewIn.step {w0 w w2 : World} {P : DP} {O : Nat → Nat → Prop} {k n q : Nat} {K : Nat → Prop} (h : NewIn w0 w P O k n) (hk : k < 6) (s : SegAt w2 q K Sg.none) (f : Fr Nob w w2) (hK : ∀ b, K b → w.heap.size ≤ b) :
    NewIn w0 (w2.setCell ⟨P.c, 2 + k, none⟩ (ptr q)) { P with q := fun j => if j = k then q else P.q j } (updO O (4 + k) K) (k + 1) n := by
  have f3 : Fr (One P.c) w2 (w2.setCell ⟨P.c, 2 + k, none⟩ (ptr q)) := (Fr.refl (One P.c) w2).setCell ⟨P.c, 2 + k, none⟩ (fun _ => rfl) (ptr q)
  have c0 := (h.o0 _).2 rfl
  have no : ∀ {i b}, i < 10 → i ≠ 0 → O i b → ¬ One P.c b := fun hi hne hb e => hne (h.dis _ 0 _ hi (by omega) hb ((h.o0 _).2 e))
  have nK : ∀ {b}, K b → ¬ One P.c b := fun hb e => by have h1 := hK _ hb; have h2 := h.lt 0 _ c0; have h3 : _ = P.c := e; omega
  have hs := f.size
  have hs3 := f3.size
  refine ⟨?_, ?_, ?_, fun i hi => ?_, ?_, ?_, ?_, ?_, fun i b hi => ?_, fun i j b hi hj h1 h2 => ?_, fun i b hb => ?_, fun i b hb => ?_, h.fr.trans' f |>.trans f3 fun b hb e => ?_⟩
  · show (w2.setCell ⟨P.c, 2 + k, none⟩ (ptr q)).heap[P.c]? = _
    rw [heap_setCell_same w2 P.c (2 + k) _ _ (ptr q) (f.heap h.top fun h => h), set_six hk]
    congr 3
    have e : ∀ j, (if j = k then ptr q else qv P k j) = qv { P with q := fun j => if j = k then q else P.q j } (k + 1) j := fun j => by
      unfold qv
      by_cases e : j = k
      · subst e
        rw [if_pos rfl, if_pos (by omega)]
        simp
      · rw [if_neg e]
        by_cases e2 : j < k
        · rw [if_pos e2, if_pos (by omega)]
          simp [e]
        · rw [if_neg e2, if_neg (by omega)]
    simp only [e]
  · exact (h.slab.keep f (fun h => h) (fun h => h)).keep f3 (no (i := 2) (by omega) (by omega) ((h.o2 _).2 (.inl rfl))) (no (i := 2) (by omega) (by omega) ((h.o2 _).2 (.inr rfl)))
  · rw [updO_ne (by omega)]
    exact (h.tab.nob f).keep f3 fun b hb => no (i := 1) (by omega) (by omega) hb
  · show SegAt _ (if i = k then q else P.q i) (updO O (4 + k) K (4 + i)) Sg.none
    by_cases e : i = k
    · subst e
      rw [if_pos rfl, updO_at]
      exact s.keep f3 fun b hb => nK hb
    · rw [if_neg e, updO_ne (by omega)]
      exact ((h.seg i (by omega)).keep f fun _ _ h => h).keep f3 fun b hb => no (i := 4 + i) (by omega) (by omega) hb
  · exact (h.map.keep f fun h => h).keep f3 (no (i := 3) (by omega) (by omega) ((h.o3 _).2 rfl))
  · rw [updO_ne (by omega)]; exact h.o0
  · rw [updO_ne (by omega)]; exact h.o2
  · rw [updO_ne (by omega)]; exact h.o3
  · rw [updO_ne (by omega)]; exact h.oe i b (by omega)
  · have lt1 : ∀ a, a ≠ 4 + k → updO O (4 + k) K a b → b < w.heap.size := fun a ha hb => by rw [updO_ne ha] at hb; exact h.lt a b hb
    by_cases e1 : i = 4 + k
    · by_cases e2 : j = 4 + k
      · omega
      · have := lt1 j e2 h2
        rw [e1, updO_at] at h1
        have := hK b h1
        omega
    · by_cases e2 : j = 4 + k
      · have := lt1 i e1 h1
        rw [e2, updO_at] at h2
        have := hK b h2
        omega
      · rw [updO_ne e1] at h1
        rw [updO_ne e2] at h2
        exact h.dis i j b hi hj h1 h2
  · by_cases e : i = 4 + k
    · rw [e, updO_at] at hb
      have := s.lt b hb
      omega
    · rw [updO_ne e] at hb
      have := h.lt i b hb
      omega
  · by_cases e : i = 4 + k
    · rw [e, updO_at] at hb
      have := hK b hb
      have := h.fr.size
      omega
    · rw [updO_ne e] at hb
      exact h.low i b hb
  · have := h.low 0 _ c0
    have e2 : b = P.c := e
    omega

theorem NewIn.done {w0 w : World} {P : DP} {O : Nat → Nat → Prop} {n : Nat} (h : NewIn w0 w P O 6 n) : DrIn w P O (newC n) ∧ ∀ k, UO O k → w0.heap.size ≤ k :=
  ⟨⟨h.top, h.slab, h.tab, h.seg, h.map, h.o0, h.o2, h.o3, h.dis⟩, fun k ⟨i, _, hk⟩ => h.low i k hk⟩

set_option maxHeartbeats 2000000 in
set_option maxRecDepth 100000 in
theorem dnew_bad (w : World) (n : Int) (h : n < 1 ∨ 1024 < n) :
    Calls Try.prog 10 #[.int .i64 n] w fun e w' => e = .returned (.tuple #[.pointer none, .int .i64 1]) ∧ Fr Nob w w' := by
  go_enter Try.func10, Try.ntmps10
  go_wp2_with fail
  refine (new_bad w n h).mono ?_
  rintro e w2 ⟨rfl, rfl⟩
  go_wp2_with fail
  go_ret2
  exact ⟨rfl, Fr.refl _ _⟩

set_option maxHeartbeats 4000000 in
set_option maxRecDepth 100000 in
theorem dnew_good (w : World) (n : Nat) (h1 : 1 ≤ n) (h2 : n ≤ 1024) :
    Calls Try.prog 10 #[.int .i64 n] w fun e w' => ∃ P O, e = .returned (.tuple #[.pointer (some ⟨P.c, 0, none⟩), .int .i64 0]) ∧ DrIn w' P O (newC n) ∧ Fr Nob w w' ∧ ∀ k, UO O k → w.heap.size ≤ k := by
  go_enter Try.func10, Try.ntmps10
  go_wp2_with fail
  refine (Sl.new_eq w n h1 h2).mono ?_
  rintro e w1 ⟨p, b, rfl, s1, f1, lp, lb, ltp⟩
  go_wp2_with fail
  refine (Tb.new_good 16 w1 (by omega) (by omega) (by decide +kernel)).mono ?_
  rintro e w2 ⟨t, K, rfl, t2, f2⟩
  go_wp2_with (with_reducible refine wpList_makeM (o := ⟨some 24, .makeMap 60 none, _, _, _, _⟩) rfl rfl ?_)
  have ha : Fr Nob w2 (w2.alloc (.map #[] 0)) := (Fr.refl Nob w2).alloc _
  have hm := MapIs.made (key := Value.int .i64) (val := outV) w2
  have hz : (w2.alloc (.map #[] 0)).heap.size = w2.heap.size + 1 := by simp
  have hb := (Fr.refl Nob (w2.alloc (.map #[] 0))).alloc (.cells #[.pointer (some ⟨p, 0, none⟩), .pointer (some ⟨t, 0, none⟩), .pointer none, .pointer none, .pointer none, .pointer none, .pointer none, .pointer none, .map (some w2.heap.size)] 64)
  have hc := heap_alloc_new (w2.alloc (.map #[] 0)) (.cells #[.pointer (some ⟨p, 0, none⟩), .pointer (some ⟨t, 0, none⟩), .pointer none, .pointer none, .pointer none, .pointer none, .pointer none, .pointer none, .map (some w2.heap.size)] 64)
  rw [hz] at hc
  have f2' := f2.out
  have hsz1 := f1.out.size
  have hsz2 := f2'.size
  have ltb : b < w1.heap.size := by
    obtain ⟨cur, hr, _⟩ := s1.out.row
    exact lt_of_block hr
  have tlow := t2.out.low
  have tlt := t2.out.lt
  have START : Hid (NewIn w ((w2.alloc (.map #[] 0)).alloc (.cells #[.pointer (some ⟨p, 0, none⟩), .pointer (some ⟨t, 0, none⟩), .pointer none, .pointer none, .pointer none, .pointer none, .pointer none, .pointer none, .map (some w2.heap.size)] 64))
      ⟨w2.heap.size + 1, p, b, t, w1.heap.size, w2.heap.size, fun _ => 0⟩ (fun i x => match i with | 0 => x = w2.heap.size + 1 | 1 => K x | 2 => x = p ∨ x = b | 3 => x = w2.heap.size | _ => False) 0 n) := Lib.hid (by
    have hz3 := hb.size
    rw [hz] at hz3
    have hlt := lt_of_block hc
    refine ⟨hc, ((s1.out.keep f2' (fun h => h) (fun h => h)).keep ha (fun h => h) (fun h => h)).keep hb (fun h => h) (fun h => h), (t2.out.nob ha).nob hb, fun i hi => by omega, hm.keep hb fun h => h, fun x => Iff.rfl, fun x => Iff.rfl, fun x => Iff.rfl, fun i x hi => ?_, fun i j x hi hj hx hy => ?_, fun i x hx => ?_, fun i x hx => ?_, (f1.out.trans' f2').trans' (ha.trans' hb)⟩
    · match i, hi with
      | i + 4, _ => exact fun h => h
    · match i, j with
      | 0, 0 => rfl
      | 0, 1 => have := tlt x hy; have h2 : x = w2.heap.size + 1 := hx; omega
      | 0, 2 => have h2 : x = w2.heap.size + 1 := hx; have h3 : x = p ∨ x = b := hy; omega
      | 0, 3 => have h2 : x = w2.heap.size + 1 := hx; have h3 : x = w2.heap.size := hy; omega
      | 1, 0 => have := tlt x hx; have h2 : x = w2.heap.size + 1 := hy; omega
      | 1, 1 => rfl
      | 1, 2 => have := tlow x hx; have h3 : x = p ∨ x = b := hy; omega
      | 1, 3 => have := tlt x hx; have h2 : x = w2.heap.size := hy; omega
      | 2, 0 => have h2 : x = w2.heap.size + 1 := hy; have h3 : x = p ∨ x = b := hx; omega
      | 2, 1 => have := tlow x hy; have h3 : x = p ∨ x = b := hx; omega
      | 2, 2 => rfl
      | 2, 3 => have h2 : x = w2.heap.size := hy; have h3 : x = p ∨ x = b := hx; omega
      | 3, 0 => have h2 : x = w2.heap.size + 1 := hy; have h3 : x = w2.heap.size := hx; omega
      | 3, 1 => have := tlt x hy; have h2 : x = w2.heap.size := hx; omega
      | 3, 2 => have h2 : x = w2.heap.size := hx; have h3 : x = p ∨ x = b := hy; omega
      | 3, 3 => rfl
      | i + 4, _ => exact hx.elim
      | _, j + 4 => exact hy.elim
    · match i with
      | 0 => have h2 : x = w2.heap.size + 1 := hx; omega
      | 1 => have := tlt x hx; omega
      | 2 => have h3 : x = p ∨ x = b := hx; omega
      | 3 => have h2 : x = w2.heap.size := hx; omega
      | i + 4 => exact hx.elim
    · match i with
      | 0 => have h2 : x = w2.heap.size + 1 := hx; omega
      | 1 => have := tlow x hx; omega
      | 2 => have h3 : x = p ∨ x = b := hx; omega
      | 3 => have h2 : x = w2.heap.size := hx; omega
      | i + 4 => exact hx.elim)
  clear ha hm hb hc f2' hsz1 hsz2 ltb tlow tlt hz s1 f1 lp lb ltp t2 f2
  generalize (w2.alloc (.map #[] 0)).alloc (.cells #[.pointer (some ⟨p, 0, none⟩), .pointer (some ⟨t, 0, none⟩), .pointer none, .pointer none, .pointer none, .pointer none, .pointer none, .pointer none, .map (some w2.heap.size)] 64) = w3 at *
  generalize w2.heap.size + 1 = c at *
  go_loopw [9, 27] (fun _ i wr => ∃ k : Nat, k ≤ 6 ∧ i = .int .i64 k ∧ ∃ P O, P.c = c ∧ Hid (NewIn w wr P O k n)) (fun _ i _ => 6 - (Lib.intOf i).toNat)
  case atStart => exact ⟨0, by omega, rfl, ⟨c, p, b, t, w1.heap.size, w2.heap.size, fun _ => 0⟩, _, rfl, START⟩
  case round =>
    clear START
    obtain ⟨k, hk, rfl, P, O, rfl, N⟩ := hrel
    by_cases hlt : k < 6
    · have hlt2 : (k : Int) < 6 := by omega
      have k0 : (0 : Int) ≤ (k : Int) := by omega
      have kt : (k : Int).toNat = k := by omega
      obtain ⟨ck, fk⟩ := N.out.cell hlt
      have lc := lt_of_block N.out.top
      go_wp2_with fail
      go_region_with (go_at_call 23; refine (Go.Proofs.Ytpbbokpmlemboaa.new_eq _).mono ?_; rintro e w4 ⟨q, K4, rfl, s4, f4, l4⟩; have e1 := f4.cell (show wr.drew.cell? ⟨P.c, 2 + k, none⟩ = _ from ck) (fun h => h); have e2 := (f4.frozen (p := ⟨P.c, 2 + k, none⟩) lc (fun h => h)).trans (show wr.drew.frozen? ⟨P.c, 2 + k, none⟩ = _ from fk))
      all_goals
        have N2 := Lib.hid (N.out.step hlt s4 ((Fr.refl Nob wr).drew.trans' f4) l4)
        clear s4 f4 l4 e1 e2 ck fk N
        go_wp2_with fail
        go_roundw
        case rel => exact ⟨k + 1, by omega, by go_num, { P with q := fun j => if j = k then q else P.q j }, _, rfl, N2⟩
        case measure => simp [Lib.intOf]; omega
    · have hk6 : k = 6 := by omega
      subst hk6
      obtain ⟨d1, d2⟩ := N.out.done
      have D1 := Lib.hid d1
      have D2 := Lib.hid d2
      have F := Lib.hid N.out.fr
      clear d1 d2 N
      go_wp2_with fail
      go_ret2
      exact ⟨P, O, rfl, D1.out, F.out, D2.out⟩
end Go.Proofs.Ytpbbokpmlemboaa
