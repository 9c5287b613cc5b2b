/-
  Contract of the reference's Take.
-/
import Derived.Test.YtamcnieneelmmaaSlabS
namespace Go.Proofs.Ytamcnieneelmmaa
open Go.RowKit

theorem bool_info : (Try.prog.info? 4).map (fun i => (i.zero.map Value.cells, i.size, i.bytes)) = some (some #[.bool false], 1, 1) := by kernel_rfl
theorem run_makeB {n : Nat} (b2 : n ≤ 64) (w : World) :
    (Instr.makeSlice 54 (.int .i64 n) (.int .i64 n)).run Try.prog w = .ok (.slice (some ⟨w.heap.size, 0, none⟩) n n) (w.alloc (.cells (madeCells #[.bool false] n) 4)) := by
  cases hq : Try.prog.info? 4 with
  | none => have := bool_info; simp [hq] at this
  | some i =>
    have hz := bool_info
    simp only [hq, Option.map_some, Option.some.injEq, Prod.mk.injEq] at hz
    obtain ⟨hz1, hz2, hz3⟩ := hz
    cases hzz : i.zero with
    | none => simp [hzz] at hz1
    | some zv =>
      have hzc : zv.cells = #[.bool false] := by simpa [hzz] using hz1
      have hb : (i.bytes : Int) * (n : Int) ≤ 281474976710656 := by rw [hz3]; omega
      have hr := run_make (P := Try.prog) w 54 4 i zv Try.underlying54 hq hzz .i64 .i64 (n : Int) (n : Int) (by omega) (Int.le_refl _) hb (by omega)
      simp only [Int.toNat_natCast, hzc, hz2, Nat.mul_one] at hr
      exact hr

def refN (S : List Pg) (c : Int) : Int := if takeE S c = 0 then takeN S c else -1

section
variable {w : World} {u go gt cgo cgt : Nat} {tb : Nat → Value} {S : List Pg} {K : Nat → Prop}

def RTake (w : World) (u : Nat) (K : Nat → Prop) (S : List Pg) (c : Int) (e : Ending) (w' : World) : Prop :=
  e = .returned (.int .i64 (refN S c)) ∧ Hid (RSTo w u K w' (takeS S c))

theorem refN_slot {c : Int} {i : Nat} (hc : inCls c = true) (h : slot S c = some i) : refN S c = 64 * (i : Int) + (freeIn (S.getD i Pg.new).tk : Int) := by
  obtain ⟨_, t2, t3⟩ := take_slot hc h
  unfold refN
  rw [t3, if_pos rfl, t2]
theorem refN_full {c : Int} (hc : inCls c = true) (h : slot S c = none) : refN S c = -1 ∧ takeS S c = S := by
  obtain ⟨t1, t2, t3⟩ := take_full hc h
  unfold refN
  rw [t3, if_neg (by decide)]
  exact ⟨rfl, t1⟩

/-- The first way's end. -/
theorem rtake_end1 (s : RSl w u go gt cgo cgt tb S) (hK : ∀ k, K k ↔ RSOwn u go gt tb S.length k) {c : Int} (h0 : 0 ≤ c) (h6 : c < 6) {i k g cap : Nat} (hi : i < S.length) (h1 : fits1 c S[i] = true) (h2 : ∀ j (hj : j < i), fits1 c (S[j]'(by omega)) = false)
    (hk : k = freeIn S[i].tk) (hg : tb i = .slice (some ⟨g, 0, none⟩) (lenP S[i]) cap) : RTake w u K S c (.returned (.int .i64 (64 * (i : Int) + (k : Int)))) (w.setCell ⟨g, k, none⟩ (.bool true)) := by
  subst hk
  have hs : slot S c = some i := by unfold slot; rw [find_some hi h1 h2]; rfl
  have hc : inCls c = true := by simp [inCls, h0, h6]
  obtain ⟨t1, _, _⟩ := take_slot hc hs
  have hh : S[i].cls = c ∧ S[i].us < chunksOf c := by simpa [fits1] using h1
  have hok := ok_of_mem s.ok hi
  have hu : S[i].us < chunksOf S[i].cls := by rw [hh.1]; exact hh.2
  have hc0 : 0 ≤ S[i].cls := by rw [hh.1]; exact h0
  obtain ⟨⟨g1, _, _⟩, _⟩ := hok.free hc0 hu
  have hkl : freeIn S[i].tk < lenP S[i] := by
    unfold lenP
    rw [if_neg (by omega)]
    omega
  have hok2 := hok.take hc0 hu
  refine ⟨by rw [refN_slot hc hs, getD_of hi], Lib.hid ⟨K, ?_, (Fr.refl K w).setCell ⟨g, _, none⟩ (fun _ => (hK g).2 (.inr (.inr (.inr ⟨i, hi, by rw [hg]; rfl⟩)))) _, fun k hk => .inl hk⟩⟩
  rw [t1, getD_of hi]
  rw [hh.1] at hok2
  exact ⟨go, gt, cgo, cgt, tb, s.set_tk (q := ⟨c, _, _⟩) hi hg true hok2 hh.1.symm rfl hkl, by rw [List.length_set]; exact hK⟩

/-- A page is given to a class: the worlds of the three stores. -/
def turnW (w : World) (go gt i m : Nat) (c : Int) : World :=
  (((w.setCell ⟨go, i, none⟩ (.int .i64 c)).drew.alloc (.cells (madeCells #[.bool false] m) 4)).setCell ⟨gt, i, none⟩ (.slice (some ⟨w.heap.size, 0, none⟩) m m)).setCell ⟨w.heap.size, 0, none⟩ (.bool true)

theorem lenP_cls (q : Pg) {c : Int} (h0 : 0 ≤ c) (h : q.cls = c) : lenP q = (chunksOf c).toNat := by
  unfold lenP; rw [if_neg (by omega), h]

theorem madeB (m : Nat) : (madeCells #[.bool false] m).toList = List.replicate m (.bool false) := by
  apply List.ext_getElem?
  intro j
  unfold madeCells
  simp [List.getElem?_replicate, Nat.mod_one]
  by_cases h : j < m
  · rw [if_pos h, List.getElem?_range h]; rfl
  · rw [if_neg h, List.getElem?_eq_none (by simp; omega)]; rfl

theorem rtake_end2 (s : RSl w u go gt cgo cgt tb S) (hK : ∀ k, K k ↔ RSOwn u go gt tb S.length k) {c : Int} (h0 : 0 ≤ c) (h6 : c < 6) {i m : Nat} (hi : i < S.length) (hs : slot S c = some i) (hu : S[i].us = 0) (hm : m = (chunksOf c).toNat) :
    RTake w u K S c (.returned (.int .i64 (64 * (i : Int)))) (turnW w go gt i m c) := by
  have hc : inCls c = true := by simp [inCls, h0, h6]
  obtain ⟨t1, _, _⟩ := take_slot hc hs
  have hok := ok_of_mem s.ok hi
  have hf : freeIn S[i].tk = 0 := freeIn_of _ 0 (by omega) (hok.empty hu 0) (fun j hj => by omega)
  have hp := chunksOf_pos c h0 h6
  obtain ⟨a1, a2, a3⟩ := s.apart
  obtain ⟨b, hb⟩ : ∃ b, b = w.heap.size := ⟨_, rfl⟩
  have hlt : ∀ k, RSOwn u go gt tb S.length k → k < b := by rw [hb]; exact s.lt
  have lu := hlt u (.inl rfl)
  have lgo := hlt go (.inr (.inl rfl))
  have lgt := hlt gt (.inr (.inr (.inl rfl)))
  have hm64 : 2 ≤ m ∧ m ≤ 64 := by omega
  -- the new block
  have hnew : (turnW w go gt i m c).heap[b]? = some (.cells ((madeCells #[.bool false] m).setIfInBounds 0 (.bool true)) 4 (0, 0)) := by
    unfold turnW
    rw [← hb]
    refine heap_setCell_same _ b 0 _ _ _ ?_
    show ((World.alloc _ _).setCell _ _).heap[b]? = _
    rw [Below.heap_setCell _ _ _ _ (by show b ≠ gt; omega)]
    have := heap_alloc_new (w.setCell ⟨go, i, none⟩ (.int .i64 c)).drew (.cells (madeCells #[.bool false] m) 4)
    simpa [hb] using this
  have hF : Fr (fun k => k = go ∨ k = gt) w (turnW w go gt i m c) := by
    unfold turnW
    refine Fr.setCell (Fr.setCell (Fr.alloc (Fr.drew ((Fr.refl _ w).setCell ⟨go, i, none⟩ (fun _ => .inl rfl) _)) _) ⟨gt, i, none⟩ (fun _ => .inr rfl) _) ⟨w.heap.size, 0, none⟩ (fun h => absurd h (Nat.lt_irrefl _)) _
  have hok3 : (⟨c, upd S[i].tk 0 true, S[i].us + 1⟩ : Pg).ok := by
    have h3 := hok.turn hu c h0 h6
    have h4 := h3.take h0 (by show S[i].us < chunksOf c; omega)
    simp only [hf] at h4
    exact h4
  refine ⟨by rw [refN_slot hc hs, getD_of hi, hf]; simp, Lib.hid ⟨fun k => RSOwn u go gt (fun j => if j = i then .slice (some ⟨b, 0, none⟩) m m else tb j) S.length k, ?_, hF.mono fun k _ hk => (hK k).2 (hk.elim (fun h => .inr (.inl h)) (fun h => .inr (.inr (.inl h)))), fun k hk => ?_⟩⟩
  · rw [t1, getD_of hi, hf]
    have hl : (S.set i ⟨c, upd S[i].tk 0 true, S[i].us + 1⟩).length = S.length := List.length_set
    refine ⟨go, gt, cgo, cgt, _, ⟨?_, ?_, ?_, fun j hj => ?_, fun j g' hj => ?_, fun a d hh ha hd => ?_, ?_, ?_, set_ok s.ok i hok3⟩, by rw [hl]; exact fun _ => Iff.rfl⟩
    · rw [hl]; exact hF.heap s.top (fun h => h.elim a1 a2)
    · rw [hl, clsV_set]
      have r1 := row_set s.of i (.int .i64 c)
      have f2 : Fr (One gt) (w.setCell ⟨go, i, none⟩ (.int .i64 c)) (turnW w go gt i m c) := by
        unfold turnW
        exact Fr.setCell ((((Fr.refl (One gt) (w.setCell ⟨go, i, none⟩ (.int .i64 c))).drew.alloc (.cells (madeCells #[.bool false] m) 4)).set1 (o := i) (.slice (some ⟨w.heap.size, 0, none⟩) m m))) ⟨w.heap.size, 0, none⟩ (fun h => by simp at h) _
      exact f2.ownsRow r1 fun k hk e => a3 (by rw [← own_is hk] at e; exact e)
    · rw [hl]
      have f1 : Fr (One go) w ((w.setCell ⟨go, i, none⟩ (.int .i64 c)).drew.alloc (.cells (madeCells #[.bool false] m) 4)) := ((Fr.refl (One go) w).set1 (o := i) (.int .i64 c)).drew.alloc _
      have r0 := f1.ownsRow s.tk fun k hk e => a3 (by rw [← own_is hk] at e; exact e.symm)
      have r1 := row_set r0 i (.slice (some ⟨w.heap.size, 0, none⟩) m m)
      have r3 := ownsRow_setCell_other r1 (a := ⟨w.heap.size, 0, none⟩) (by rw [Value.ownBlock, ← hb]; simp; omega) (.bool true)
      have e : (List.range S.length).map (fun j => if j = i then Value.slice (some ⟨b, 0, none⟩) m m else tb j) = ((List.range S.length).map tb).set i (.slice (some ⟨w.heap.size, 0, none⟩) m m) := by
        apply List.ext_getElem?
        intro j
        rw [List.getElem?_set, List.getElem?_map, List.getElem?_map]
        by_cases hj : j < S.length
        · rw [List.getElem?_range hj, Option.map_some, Option.map_some]
          by_cases e : i = j
          · subst e; rw [if_pos rfl, if_pos rfl, if_pos (by simpa using hj), hb]
          · rw [if_neg (fun h => e h.symm), if_neg e]
        · rw [List.getElem?_eq_none (by simp; omega), Option.map_none]
          by_cases e : i = j
          · omega
          · rw [if_neg e]; rfl
      rw [e]
      exact r3
    · rw [hl] at hj
      by_cases e : i = j
      · subst e
        rw [if_pos rfl]
        simp only [List.getElem_set_self]
        have hlen : lenP ⟨c, upd S[i].tk 0 true, S[i].us + 1⟩ = m := by rw [lenP_cls _ h0 rfl, hm]
        rw [hlen]
        refine ⟨by unfold boolsP; rw [List.length_map, List.length_range, hlen, Nat.mul_one], .inr ⟨b, m, _, rfl, Nat.zero_le _, hnew, Nat.le_refl _, by simp [maxLen]; omega, by simp [size_madeCells], ?_⟩⟩
        rw [Array.toList_setIfInBounds, madeB]
        unfold boolsP
        rw [hlen]
        apply List.ext_getElem?
        intro r
        rw [List.getElem?_take]
        by_cases hr : r < m
        · rw [if_pos (by omega), List.getElem?_set, List.getElem?_map, List.getElem?_range hr]
          by_cases er : 0 = r
          · subst er; rw [if_pos rfl, if_pos (by simpa using hr)]; rfl
          · rw [if_neg er, List.getElem?_replicate, if_pos hr]
            have : upd S[i].tk 0 true r = false := by unfold upd; rw [if_neg (by omega)]; exact hok.empty hu r
            show _ = some (Value.bool (upd S[i].tk 0 true r))
            rw [this]
        · rw [if_neg (by omega), List.getElem?_eq_none (by simp; omega)]
      · rw [if_neg (fun h => e h.symm), List.getElem_set_ne e]
        refine hF.ownsRow (s.pg j hj) fun k hk hh => ?_
        obtain ⟨x1, x2, x3⟩ := s.sep j k hj hk
        rcases hh with h | h
        · exact x2 h
        · exact x3 h
    · rw [hl] at hj
      intro hown
      by_cases e : j = i
      · simp only [if_pos e] at hown
        have := own_is hown
        omega
      · simp only [if_neg e] at hown
        exact s.sep j g' hj hown
    · rw [hl] at ha hd
      intro hne hown hown2
      by_cases e : a = i
      · simp only [if_pos e] at hown
        by_cases e2 : d = i
        · omega
        · simp only [if_neg e2] at hown2
          have := own_is hown
          have := hlt hh (.inr (.inr (.inr ⟨d, hd, hown2⟩)))
          omega
      · simp only [if_neg e] at hown
        by_cases e2 : d = i
        · simp only [if_pos e2] at hown2
          have := own_is hown2
          have := hlt hh (.inr (.inr (.inr ⟨a, ha, hown⟩)))
          omega
        · simp only [if_neg e2] at hown2
          exact s.two a d hh ha hd hne hown hown2
    · rw [hl]; exact s.pos
    · rw [hl]; exact s.len
  · rcases hk with h | h | h | ⟨j, hj, h⟩
    · exact .inl ((hK k).2 (.inl h))
    · exact .inl ((hK k).2 (.inr (.inl h)))
    · exact .inl ((hK k).2 (.inr (.inr (.inl h))))
    · by_cases e : j = i
      · simp only [if_pos e] at h
        have := own_is h
        exact .inr (by omega)
      · simp only [if_neg e] at h
        exact .inl ((hK k).2 (.inr (.inr (.inr ⟨j, hj, h⟩))))
/-- What the walk reads of page i: its class; its row. -/
theorem RSl.cls_ (s : RSl w u go gt cgo cgt tb S) {i : Nat} (hi : i < S.length) : (S[i].cls = -1 ∧ lenP S[i] = 0 ∧ S[i].us = 0) ∨ (0 ≤ S[i].cls ∧ S[i].cls < 6 ∧ lenP S[i] = (chunksOf S[i].cls).toNat ∧ 2 ≤ lenP S[i]) := by
  rcases ok_of_mem s.ok hi with h | ⟨h0, h6, h3, _⟩
  · exact .inl ⟨h.1, by unfold lenP; rw [if_pos h.1], h.2.1⟩
  · have hp := chunksOf_pos _ h0 h6
    have e := lenP_cls S[i] h0 rfl
    exact .inr ⟨h0, h6, e, by rw [e]; omega⟩
theorem fits1_iff (s : RSl w u go gt cgo cgt tb S) {c : Int} (h0 : 0 ≤ c) {i k : Nat} (hi : i < S.length) (hc : S[i].cls = c) (hk : k < lenP S[i]) (h1 : S[i].tk k = false) (h2 : ∀ j, j < k → S[i].tk j = true) : fits1 c S[i] = true ∧ k = freeIn S[i].tk := by
  have hl : lenP S[i] ≤ 64 := by
    have := s.page hi
    obtain ⟨_, _, _, h, _⟩ := this
    exact h
  refine ⟨?_, (freeIn_of _ k (by omega) h1 h2).symm⟩
  have hcnt := (ok_of_mem s.ok hi).count
  have e := lenP_cls S[i] (by omega) rfl
  have hlt : cnt S[i].tk (lenP S[i]) < lenP S[i] := by
    rcases Nat.lt_or_ge (cnt S[i].tk (lenP S[i])) (lenP S[i]) with h | h
    · exact h
    · have hle := cnt_le S[i].tk (lenP S[i])
      exfalso
      have hall : ∀ n, cnt S[i].tk n = n → ∀ j, j < n → S[i].tk j = true := by
        intro n
        induction n with
        | zero => intro _ j hj; omega
        | succ n ih =>
          intro hn j hj
          have hle := cnt_le S[i].tk n
          unfold cnt at hn
          by_cases ht : S[i].tk n = true
          · rw [if_pos ht] at hn
            by_cases ej : j = n
            · rw [ej]; exact ht
            · exact ih (by omega) j (by omega)
          · rw [if_neg ht] at hn; omega
      have := hall _ (by omega) k hk
      rw [h1] at this; cases this
  rw [← hc]
  exact fits1_of (by simp) (by omega)
theorem fits1_not (s : RSl w u go gt cgo cgt tb S) {c : Int} {i : Nat} (hi : i < S.length) (h2 : S[i].cls = c → ∀ j, j < lenP S[i] → S[i].tk j = true) : fits1 c S[i] = false := by
  by_cases hc : (S[i].cls == c) = true
  · have hc' : S[i].cls = c := by simpa using hc
    refine fits1_no' ?_
    have hcnt := (ok_of_mem s.ok hi).count
    rw [cnt_all _ _ (h2 hc')] at hcnt
    rcases s.cls_ hi with h | ⟨h0, h6, e, _⟩
    · have : chunksOf c = 0 := by rw [← hc', h.1]; rfl
      omega
    · rw [hc'] at e h0 h6
      have := chunksOf_pos c h0 h6
      omega
  · exact fits1_no (by simpa using hc)
theorem RSl.free (s : RSl w u go gt cgo cgt tb S) (i : Nat) : w.frozen? ⟨go, i, none⟩ = false ∧ w.frozen? ⟨gt, i, none⟩ = false := by
  refine ⟨?_, ?_⟩
  · rcases s.of.2 with ⟨h3, _⟩ | ⟨g', cap', cur, h3, _, h4, _⟩
    · cases h3
    · simp only [Value.slice.injEq, Option.some.injEq, Addr.mk.injEq, and_true] at h3
      obtain ⟨rfl, _, rfl⟩ := h3
      exact frozen_of_row w go i _ _ h4
  · rcases s.tk.2 with ⟨h3, _⟩ | ⟨g', cap', cur, h3, _, h4, _⟩
    · cases h3
    · simp only [Value.slice.injEq, Option.some.injEq, Addr.mk.injEq, and_true] at h3
      obtain ⟨rfl, _, rfl⟩ := h3
      exact frozen_of_row w gt i _ _ h4
theorem turn_facts (s : RSl w u go gt cgo cgt tb S) {i m : Nat} (hi : i < S.length) (hm : 1 ≤ m) {W1 W2 : World} {c : Int} (e1 : W1 = w.setCell ⟨go, i, none⟩ (.int .i64 c))
    {WA : World} (ea : WA = (W1.alloc (.cells (madeCells #[.bool false] m) 4)).drew) (e2 : W2 = WA.setCell ⟨gt, i, none⟩ (.slice (some ⟨w.heap.size, 0, none⟩) m m)) :
    W1.heap.size = w.heap.size ∧ W1.cell? ⟨u, 1, none⟩ = some (.slice (some ⟨gt, 0, none⟩) S.length cgt) ∧ W1.cell? ⟨gt, i, none⟩ = some (tb i) ∧ W1.frozen? ⟨gt, i, none⟩ = false ∧
    WA.cell? ⟨u, 1, none⟩ = some (.slice (some ⟨gt, 0, none⟩) S.length cgt) ∧ WA.cell? ⟨gt, i, none⟩ = some (tb i) ∧ WA.frozen? ⟨gt, i, none⟩ = false ∧
    W2.cell? ⟨u, 1, none⟩ = some (.slice (some ⟨gt, 0, none⟩) S.length cgt) ∧ W2.cell? ⟨gt, i, none⟩ = some (.slice (some ⟨w.heap.size, 0, none⟩) m m) ∧ W2.cell? ⟨w.heap.size, 0, none⟩ = some (.bool false) ∧ W2.frozen? ⟨w.heap.size, 0, none⟩ = false := by
  obtain ⟨a1, a2, a3⟩ := s.apart
  obtain ⟨_, c1, cr⟩ := s.cells
  have ct := (cr i hi).2
  have hu : u < w.heap.size := s.lt u (.inl rfl)
  have hgo : go < w.heap.size := s.lt go (.inr (.inl rfl))
  have hgt : gt < w.heap.size := s.lt gt (.inr (.inr (.inl rfl)))
  have z1 : W1.heap.size = w.heap.size := by rw [e1]; simp
  have f1 : Fr (One go) w W1 := by rw [e1]; exact (Fr.refl _ _).set1 _
  have d1 := f1.cell c1 a1
  have d2 := f1.cell ct (fun h => a3 h.symm)
  have d3 : W1.frozen? ⟨gt, i, none⟩ = false := (f1.frozen (p := ⟨gt, i, none⟩) hgt (fun h => a3 h.symm)).trans (s.free i).2
  have fa : Fr Nob W1 WA := by rw [ea]; exact ((Fr.refl _ _).alloc _).drew
  have x1 := fa.cell d1 (fun h => h)
  have x2 := fa.cell d2 (fun h => h)
  have x3 : WA.frozen? ⟨gt, i, none⟩ = false := (fa.frozen (p := ⟨gt, i, none⟩) (by show gt < _; omega) (fun h => h)).trans d3
  have f2 : Fr (One gt) WA W2 := by rw [e2]; exact (Fr.refl _ _).set1 _
  have d4 := f2.cell x1 a2
  have n0 : W2.heap[w.heap.size]? = some (.cells (madeCells #[.bool false] m) 4 (0, 0)) := by
    rw [e2, Below.heap_setCell _ _ _ _ (by show w.heap.size ≠ gt; omega), ← z1, ea]
    exact heap_alloc_new W1 _
  refine ⟨z1, d1, d2, d3, x1, x2, x3, d4, ?_, ?_, frozen_of_row W2 _ 0 _ _ n0⟩
  · rw [e2]
    exact World.cell?_setCell_same _ _ (.slice (some ⟨w.heap.size, 0, none⟩) m m) x2
  · rw [cell_of_row W2 _ 0 _ _ (0, 0) n0]
    have : (madeCells #[Value.bool false] m)[0]? = (List.replicate m (Value.bool false))[0]? := by rw [← madeB, Array.getElem?_toList]
    rw [this, List.getElem?_replicate, if_pos (by omega)]
end
end Go.Proofs.Ytamcnieneelmmaa
