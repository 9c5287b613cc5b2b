/-
  flash: change, Write, Erase, Read, Arm.
-/
import Derived.Test.YtpdljgjofebgpaaFlashA
namespace Go.Proofs.Ytpdljgjofebgpaa
open Go.RowKit

theorem ptr_zero (w : World) : (zeroValue 112).run Try.prog w = .ok (id (Value.pointer none)) w := by kernel_rfl

theorem DevIn.putM {w w2 : World} {q g cap m : Nat} {vals : List Value} {L : List (Int × Value)} {P : Nat → Prop} {D : Dv} (s : DevIn w q g cap m vals L P D) (hP : ∀ k, P k → k ≠ m) {i : Nat} (hi : i < D.pg.length) {v : Value} {p : Pg} (hv : PgAt w P v p)
    (hm : MapIs (Value.int .i64) id w2 m (setM L (i : Int) v)) (f : Fr (One m) w w2) : DevIn w2 q g cap m vals (setM L (i : Int) v) P { D with pg := D.pg.modify i (fun c => (c.1, some p)) } where
  top := by
    show w2.heap[q]? = some (.cells #[.slice _ (D.pg.modify i _).length cap, _, _, _, _, _, _, _, _] _ _)
    rw [modify_len]
    exact f.heap s.top s.ne.2.1
  row := by
    show w2.ownsRow _ _ _ (.slice _ (D.pg.modify i _).length cap) (D.pg.modify i _).length vals
    rw [modify_len]
    exact f.ownsRow s.row fun k hk => by
      have : g = k := by simpa [Value.ownBlock] using hk
      subst this
      exact s.ne.2.2
  map := hm
  fl := fun j c h => by
    have h' : (D.pg.modify i (fun c => (c.1, some p)))[j]? = some c := h
    rw [List.getElem?_modify] at h'
    cases hc : D.pg[j]? with
    | none => rw [hc] at h'; cases h'
    | some c0 =>
      obtain ⟨u, h1, h2⟩ := s.fl j c0 hc
      rw [hc] at h'
      refine ⟨u, h1, ?_⟩
      have e : c.1 = c0.1 := by
        simp only [Option.map_eq_map, Option.map_some, Option.some.injEq] at h'
        split at h'
        · rw [← h']
        · rw [← h']
      rw [e]
      exact h2.keep f hP
  wt := fun j c h => by
    have h' : (D.pg.modify i (fun c => (c.1, some p)))[j]? = some c := h
    rw [List.getElem?_modify] at h'
    cases hc : D.pg[j]? with
    | none => rw [hc] at h'; cases h'
    | some c0 =>
      rw [hc] at h'
      simp only [Option.map_eq_map, Option.map_some, Option.some.injEq] at h'
      by_cases e : i = j
      · subst e
        rw [if_pos rfl] at h'
        rw [← h']
        exact ⟨v, by rw [getM_setM, if_pos rfl], hv.keep f hP⟩
      · rw [if_neg e] at h'
        have hc' : c0 = c := h'
        subst hc'
        have hij : ¬ (j : Int) = (i : Int) := by omega
        have h3 := (s.wt j c0 hc).keep f hP
        cases hw : c0.2 with
        | none =>
          rw [hw] at h3
          show getM _ _ = none
          rw [getM_setM, if_neg hij]
          exact h3
        | some p' =>
          rw [hw] at h3
          obtain ⟨u, h4, h5⟩ := h3
          exact ⟨u, by rw [getM_setM, if_neg hij]; exact h4, h5⟩
  keys := fun k hk => by
    show 0 ≤ k ∧ k < ((D.pg.modify i _).length : Int)
    rw [modify_len]
    rw [keysM_setM] at hk
    split at hk
    · exact s.keys k hk
    · rw [List.mem_append] at hk
      rcases hk with hk | hk
      · exact s.keys k hk
      · have : k = (i : Int) := by simpa using hk
        omega
  arm0 := s.arm0
  arm1 := s.arm1
  low := by show 1 ≤ (D.pg.modify i _).length; rw [modify_len]; exact s.low
  most := by show (D.pg.modify i _).length ≤ 4096; rw [modify_len]; exact s.most

theorem change_off {w : World} {q : Nat} {K P : Nat → Prop} {D : Dv} (s : DevAt w q K P D) (x : Int) (v : Value) (hb : D.spend.off = true) (i : Nat) (p : Pg) :
    Calls Try.prog 72 #[.pointer (some ⟨q, 0, none⟩), .int .i64 x, v] w fun e w' => e = .returned (.int .i64 4) ∧ DTo w q K P w' (D.change i p) := by
  have he : D.change i p = D.spend := by unfold Dv.change; rw [if_pos hb]
  have hc := Lib.hid (spend_eq s true hb)
  rw [he]
  clear he hb s
  go_enter Try.func72, Try.ntmps72
  go_wp2_with fail
  refine hc.out.mono ?_
  rintro e w' ⟨rfl, t⟩
  have T := Lib.hid t
  clear t
  go_wp2_with fail
  go_ret
  exact ⟨rfl, T.out⟩

theorem change_on {w : World} {q : Nat} {K P : Nat → Prop} {D : Dv} (s : DevAt w q K P D) {i : Nat} (hi : i < D.pg.length) {v : Value} {p : Pg} (hv : PgAt w P v p) (hb : D.spend.off = false) :
    Calls Try.prog 72 #[.pointer (some ⟨q, 0, none⟩), .int .i64 i, v] w fun e w' => e = .returned (.int .i64 0) ∧ DTo w q K P w' (D.change i p) := by
  have he : D.change i p = D.spend.put i p := by unfold Dv.change; rw [if_neg (by simp [hb])]
  have hc := Lib.hid (spend_eq s false hb)
  have hi2 : i < D.spend.pg.length := by rw [spend_pg]; exact hi
  have hap := s.apart
  have HAP := Lib.hid hap
  obtain ⟨a, rfl⟩ := hv.shape
  have HV := Lib.hid hv
  rw [he]
  generalize D.spend = E at *
  clear he hb s hi hap hv
  go_enter Try.func72, Try.ntmps72
  go_wp2_with fail
  refine hc.out.mono ?_
  rintro e w1 ⟨rfl, P1, ⟨g, cap, m, vals, L, s, hK, hl⟩, f1, a1, a2⟩
  have S := Lib.hid s
  have HK := Lib.hid hK
  have HL := Lib.hid hl
  have F1 := Lib.hid f1
  have A1 := Lib.hid a1
  have A2 := Lib.hid a2
  have c1 := s.cells.2.1
  have c5 := s.cells.2.2.2.2.2.1
  have z5 := s.cells.2.2.2.2.2.2.2.2.2 5
  clear s hK hl f1 a1 a2 hc
  go_wp2_with (at_mapUpdate; (with_reducible refine wpList_updateM rfl _ _ _ 97 rfl (int_key .i64) (val := id) Try.underlying97 Try.underlying3 S.out.map rfl (i : Int) rfl (.pointer a) rfl ?_); intro w2 m2 f2; have NE := Lib.hid S.out.ne; have c52 := f2.cell c5 (fun h => NE.out.2.1 h); have z52 := (f2.frozen (p := ⟨q, 5, none⟩) (lt_of_block S.out.top) (fun h => NE.out.2.1 h)).trans z5)
  have hPm : ∀ k, P1 k → k ≠ m := fun k hk e => (HL.out k hk).2 ((HK.out k).2 (.inr (.inr e)))
  have hPq : ∀ k, P1 k → k ≠ q := fun k hk e => (HL.out k hk).2 ((HK.out k).2 (.inl e))
  have hv1 : PgAt w1 P1 (.pointer a) p := (HV.out.keep F1.out HAP.out).mono A1.out
  have s2 := S.out.putM hPm hi2 hv1 m2 f2
  have S2 := Lib.hid s2
  have top2 := Lib.hid s2.top
  have F2 := Lib.hid f2
  have HPQ := Lib.hid hPq
  clear s2 f2 m2 hPm hPq hv1
  go_ret
  have t := S2.out.to (D' := E.put i p) HK.out (fun k hk => ⟨Nat.lt_of_lt_of_le (HL.out k hk).1 F2.out.size, (HL.out k hk).2⟩) ((Fr.refl (One q) w2).set1 (o := 5) (.int .i64 (inc E.n0))) (by
    rw [heap_setCell_same _ q 5 _ _ _ top2.out]
    rfl) rfl S2.out.arm0 S2.out.arm1
  exact ⟨rfl, DTo.trans (F1.out.trans F2.out fun k _ h => (HK.out k).2 (.inr (.inr h))) A1.out A2.out (by
    obtain ⟨P', d, f, b1, b2⟩ := t
    exact ⟨P', d, f, b1, fun k hk => (b2 k hk)⟩)⟩

end Go.Proofs.Ytpdljgjofebgpaa
