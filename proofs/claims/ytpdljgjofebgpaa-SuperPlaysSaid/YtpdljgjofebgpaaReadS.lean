/-
  flash: Read, told more sharply: the slice that is handed back is of no page.
-/
import Derived.Test.YtpdljgjofebgpaaAppN
namespace Go.Proofs.Ytpdljgjofebgpaa
open Go.RowKit

set_option maxHeartbeats 1000000 in
set_option maxRecDepth 100000 in
theorem read_strong {w : World} {q : Nat} {K P : Nat → Prop} {D : Dv} (s : DevAt w q K P D) {i : Nat} (hi : i < D.pg.length) (ho : D.off = false) {bs : List UInt8} (hp : D.now i = .whole bs) :
    Calls Try.prog 32 #[.pointer (some ⟨q, 0, none⟩), .int .i64 i] w fun e w' => ∃ v, e = .returned (.tuple #[v, .int .i64 0]) ∧ w'.ownsRow w.heap.size 5 1 v bs.length (bytesV bs) ∧ bs.length = 384 ∧ DevAt w' q K P D.read ∧ Fr K w w' := by
  have hc := Lib.hid (has_yes s (x := (i : Int)) (by omega) (by omega))
  obtain ⟨g, cap, m, vals, L, s, hK, hl⟩ := s
  have HK := Lib.hid hK
  have HL := Lib.hid hl
  obtain ⟨c0, c1, c2, _, _, _, _, c7, _, fz⟩ := s.cells
  have z7 := fz 7
  have S := Lib.hid s
  have top := Lib.hid s.top
  rw [ho] at c2
  have hm := s.most
  have t : Hid (DevAt (w.setCell ⟨q, 7, none⟩ (.int .i64 (inc D.n2))) q K P D.read ∧ Fr K w (w.setCell ⟨q, 7, none⟩ (.int .i64 (inc D.n2)))) := Lib.hid (by
    have f : Fr (One q) w (w.setCell ⟨q, 7, none⟩ (.int .i64 (inc D.n2))) := (Fr.refl (One q) w).set1 (o := 7) (.int .i64 (inc D.n2))
    refine ⟨⟨g, cap, m, vals, L, s.turn (D' := D.read) (fun k hk e => (hl k hk).2 ((hK k).2 (.inl e))) f (by
      rw [heap_setCell_same _ q 7 _ _ _ top.out]
      rfl) rfl s.arm0 s.arm1, hK, fun k hk => ⟨Nat.lt_of_lt_of_le (hl k hk).1 f.size, (hl k hk).2⟩⟩, f.mono fun k _ h => (hK k).2 (.inl h)⟩)
  have map2 := Lib.hid (s.map.keep ((Fr.refl (One q) w).set1 (o := 7) (.int .i64 (inc D.n2))) fun e => s.ne.2.1 (Eq.symm e))
  have hpq : ∀ k, P k → ¬ One q k := fun k hk e => (hl k hk).2 ((hK k).2 (.inl e))
  obtain ⟨c, hcp⟩ : ∃ c, D.pg[i]? = some c := ⟨_, List.getElem?_eq_getElem hi⟩
  have hnow : Pg.whole bs = c.2.getD c.1 := by
    rw [← hp]
    unfold Dv.now Pc.now
    rw [List.getD_eq_getElem?_getD, hcp]
    rfl
  obtain ⟨v1, hv1, hp1⟩ := s.fl i c hcp
  have cv1 : w.cell? ⟨g, i, none⟩ = some v1 := by
    obtain ⟨cur, e1, e2, e3, e4, e5⟩ := s.block
    rw [cell_of_row w g i _ _ _ e1, ← Array.getElem?_toList]
    rw [← e5, List.getElem?_take, if_pos hi] at hv1
    exact hv1
  have hw := s.wt i c hcp
  have NE := Lib.hid s.ne
  have hP1 := hp1.keep ((Fr.refl (One q) w).set1 (o := 7) (.int .i64 (inc D.n2))) hpq
  have hW1 := hw.keep ((Fr.refl (One q) w).set1 (o := 7) (.int .i64 (inc D.n2))) hpq
  have hd : decide ((i : Int) < (D.pg.length : Int)) = true := by simpa using hi
  have hqg : ¬ g = q := fun e => s.ne.1 e.symm
  have NOW := Lib.hid hnow
  clear s hK hl fz hcp hv1 hp hnow hp1 hw
  cases hcw : c.2
  case' none =>
    rw [hcw] at hW1
    have hL : getM L (i : Int) = none := hW1
    have HLL := Lib.hid hL
    obtain ⟨pv, rfl⟩ := hP1.shape
    have PV : Hid (PgAt (w.setCell ⟨q, 7, none⟩ (.int .i64 (inc D.n2))) P (.pointer pv) (.whole bs)) := Lib.hid (by rw [NOW.out, hcw]; exact hP1)
    clear hL hW1 hP1 hcw
  case' some pp =>
    rw [hcw] at hW1
    obtain ⟨v2, hL, hP2⟩ := hW1
    have HLL := Lib.hid hL
    obtain ⟨pv, rfl⟩ := hP2.shape
    have PV : Hid (PgAt (w.setCell ⟨q, 7, none⟩ (.int .i64 (inc D.n2))) P (.pointer pv) (.whole bs)) := Lib.hid (by rw [NOW.out, hcw]; exact hP2)
    clear hL hP1 hP2 hcw
  all_goals
    have PV2 := PV.out
    have T := Lib.hid t.out
    obtain ⟨g1, r1, h1, h2, h3, h4, h5, h6⟩ := PV2
    simp only [Value.pointer.injEq] at h1
    subst h1
    have d0 := cell_of_row _ g1 0 _ _ (0, 0) h4
    have d1 := cell_of_row _ g1 1 _ _ (0, 0) h4
    have H5 := Lib.hid h5
    have H6 := Lib.hid h6
    clear h4 h5 h6 PV t
    go_enter Try.func32, Try.ntmps32
    go_wp2_with fail
    refine hc.out.mono ?_
    rintro e w' ⟨rfl, rfl⟩
    go_wp2_with (at_lookup; (with_reducible refine wpList_lookupM rfl _ _ 97 rfl (int_key .i64) (val := id) Try.underlying97 Try.underlying3 (ptr_zero _) map2.out rfl (i : Int) rfl ?_); rw [HLL.out])
    refine (clone_bytes H5.out H6.out).mono ?_
    rintro e w3 ⟨v, rfl, own, f3⟩
    have OWN := Lib.hid own
    have F3 := Lib.hid f3
    clear own f3
    go_wp2_with fail
    go_ret2
    have e : (w.setCell ⟨q, 7, none⟩ (.int .i64 (inc D.n2))).heap.size = w.heap.size := by simp
    have own2 := OWN.out
    rw [e] at own2
    exact ⟨v, rfl, own2, H6.out, T.out.1.nob F3.out, T.out.2.trans' F3.out.nob⟩


/-- A block turns that pages avoid, new blocks come that they avoid. -/
theorem DL.grow' {W w w' : World} {q : Nat} {K N N' T : Nat → Prop} {D : Dv} (h : DL W w q K N D) (f : Fr T w w') (fw : Fr Nob W w') (hT : ∀ k, T k → k < w.heap.size → N k ∧ ¬ K k) (hN : ∀ k, N' k → N k ∨ (w.heap.size ≤ k ∧ k < w'.heap.size)) : DL W w' q K N' D := by
  obtain ⟨P, s, f0, h1, h2, h3⟩ := h
  refine ⟨P, s.keep f (fun k hk ht => (hT k ht (s.lt k hk)).2 hk) (fun k hk ht => h3 k hk (hT k ht (s.plt k hk)).1), fw, h1, fun k hk => ?_, fun k hp hk => ?_⟩
  · rcases hN k hk with h | h
    · exact Nat.lt_of_lt_of_le (h2 k h) f.size
    · exact h.2
  · rcases hN k hk with h | h
    · exact h3 k hp h
    · have := s.plt k hp
      omega

theorem DL.read_new {W w : World} {q : Nat} {K N : Nat → Prop} {D : Dv} (h : DL W w q K N D) {i : Nat} (hi : i < D.pg.length) (ho : D.off = false) {bs : List UInt8} (hp : D.now i = .whole bs) :
    Calls Try.prog 32 #[.pointer (some ⟨q, 0, none⟩), .int .i64 i] w fun e w' => ∃ v, e = .returned (.tuple #[v, .int .i64 0]) ∧ w'.ownsRow w.heap.size 5 1 v 384 (bytesV bs) ∧ bs.length = 384 ∧ DL W w' q K (fun k => N k ∨ v.ownBlock = some k) D.read ∧ Fr K w w' := by
  obtain ⟨P, s, f, hk, hn, hp'⟩ := h
  have hpl := s.plt
  refine (read_strong s hi ho hp).mono ?_
  rintro e w' ⟨v, rfl, o, hl, s', f'⟩
  rw [hl] at o
  refine ⟨v, rfl, o, hl, ⟨P, s', f.trans f' fun k h1 h2 => absurd (hk k h2) (by omega), hk, fun k h => ?_, fun k h1 h2 => ?_⟩, f'⟩
  · rcases h with h | h
    · exact Nat.lt_of_lt_of_le (hn k h) f'.size
    · exact (o.lt k h).2
  · rcases h2 with h | h
    · exact hp' k h1 h
    · have := (o.lt k h).1
      have := hpl k h1
      omega

end Go.Proofs.Ytpdljgjofebgpaa
