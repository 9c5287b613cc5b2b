/-
  The document's own device: Put, Write, Erase.
-/
import Derived.Test.YtpdljgjofebgpaaRefC
import Derived.Deep.DeepCutAuto
import Derived.Deep.CutBlock
namespace Go.Proofs.Ytpdljgjofebgpaa
open Go.RowKit

def finP : Pg → Pg
  | .whole bs => .whole (pad bs)
  | p => p
theorem boolsV_set (l : List Bool) (i : Nat) (b : Bool) : (boolsV l).set i (.bool b) = boolsV (l.set i b) := by unfold boolsV; rw [List.map_set]

set_option maxRecDepth 100000 in
set_option maxHeartbeats 4000000 in
theorem refPut_eq {w : World} {u : Nat} {M : Nat → Prop} {D : Dv} (s : RefAt w u M D) {i : Nat} (hi : i < D.pg.length) {x : Pg} (hx : x = .blank ∨ ∃ bs, x = .whole bs ∧ bs.length ≤ 384) (b : Bool) (hb : D.spend.off = b) :
    Calls Try.prog 95 #[.pointer (some ⟨u, 0, none⟩), .int .i64 i, .agg #[.int .i64 (kindP x), .string ⟨(txtP x).toArray⟩]] w fun e w' => e = .returned (.int .i64 (errOff b)) ∧ RfTo w u M w' (D.change i (finP x)) := by
  obtain ⟨gl, cl, gn, cn, gw, cw, s, hM⟩ := s
  have HM := Lib.hid hM
  have HB := Lib.hid hb
  have hbs : (txtP x).length ≤ 384 := by
    rcases hx with rfl | ⟨bs, rfl, h⟩
    · exact Nat.zero_le _
    · exact h
  have HX := Lib.hid hx
  obtain ⟨k, hk⟩ : ∃ k, k = kindP x := ⟨_, rfl⟩
  obtain ⟨bs, hbs2⟩ : ∃ bs, bs = txtP x := ⟨_, rfl⟩
  rw [← hbs2] at hbs
  rw [← hk, ← hbs2]
  have fa := (Fr.refl Nob w).alloc (.cells #[.int .i64 k, .string ⟨bs.toArray⟩] 148)
  have h5 := heap_alloc_new w (.cells #[.int .i64 k, .string ⟨bs.toArray⟩] 148)
  have SA := Lib.hid (s.keep fa fun _ _ h => h)
  have NE := Lib.hid (show w.heap.size ≠ u ∧ w.heap.size ≠ gl ∧ w.heap.size ≠ gn ∧ w.heap.size ≠ gw from ⟨by have := lt_of_block s.top; omega, by have := (s.last.lt gl rfl).2; omega, by have := (s.now.lt gn rfl).2; omega, by have := (s.wait.lt gw rfl).2; omega⟩)
  have GO := Lib.hid (gone_eq SA.out b hb)
  have KK := Lib.hid hk
  have TT := Lib.hid hbs2
  have hbi : ¬ (384 : Int) < (bs.length : Int) := by omega
  have hi1 : ¬ (i : Int) < 0 := by omega
  have hi2 : ¬ (D.pg.length : Int) ≤ (i : Int) := by omega
  have hi3 : ¬ D.pg.length ≤ i := by omega
  have HI := Lib.hid hi
  have e1 := SA.out.cells.2.1
  have g0 := cell_of_row _ w.heap.size 0 _ _ (0, 0) h5
  have g1 := cell_of_row _ w.heap.size 1 _ _ (0, 0) h5
  have H5 := Lib.hid h5
  have FA := Lib.hid fa
  obtain ⟨B5, hB5⟩ : ∃ B, B = w.heap.size := ⟨_, rfl⟩
  have HB5 := Lib.hid hB5
  clear hM s hb hx hk hbs2 hi h5 fa
  go_enter Try.func95, Try.ntmps95
  go_wp2_with fail
  rw [← hB5] at g0 g1 H5 NE ⊢
  generalize w.alloc (.cells #[.int .i64 k, .string ⟨bs.toArray⟩] 148) = wa at *
  clear hB5
  refine GO.out.mono ?_
  rintro e w1 ⟨rfl, s1, f1⟩
  have G5 := Lib.hid (f1.heap H5.out NE.out.1)
  clear e1 g0 g1
  cases b with
  | true =>
    have HE : Hid (D.change i (finP x) = D.spend) := Lib.hid (by unfold Dv.change; rw [if_pos HB.out])
    have TO : Hid (RfTo w u M w1 D.spend) := Lib.hid (by
      obtain ⟨M', a, b', c⟩ := RefAt.of_top ⟨s1, f1⟩ HM.out
      exact ⟨M', a, FA.out.nob.trans' b', fun k hk => (c k hk).imp id fun h => Nat.le_trans FA.out.size h⟩)
    clear s1 f1 GO
    go_wp2_with fail
    go_ret
    rw [HE.out]
    exact ⟨rfl, TO.out⟩
  | false =>
    have HE : Hid (D.change i (finP x) = D.spend.put i (finP x)) := Lib.hid (by unfold Dv.change; rw [if_neg (by rw [HB.out]; simp)])
    have hpe : D.spend.pg = D.pg := spend_pg D
    have HPE := Lib.hid hpe
    generalize D.spend = E at *
    have F1 := Lib.hid f1
    have S1 := Lib.hid s1
    clear s1 f1 GO HB hpe
    go_upto_block 0 with fail
    go_cut [] (fun W => Hid (W.heap[B5]? = some (.cells #[.int .i64 (kindP (finP x)), .string ⟨(txtP (finP x)).toArray⟩] 148 (0, 0))) ∧ Hid (Fr (One B5) w1 W))
    case first =>
      rcases HX.out with rfl | ⟨bs', rfl, hb'⟩
      · have hk0 : k = 0 := KK.out
        have hb0 : bs = [] := TT.out
        subst hk0
        subst hb0
        have g0 := cell_of_row w1 B5 0 _ _ (0, 0) G5.out
        have g1 := cell_of_row w1 B5 1 _ _ (0, 0) G5.out
        go_wp2_with fail
        go_loopg [] 1 (fun gk wr => gk = 1 ∧ wr = w1)
        case atStart => exact ⟨rfl, rfl⟩
        case round =>
          obtain ⟨_, rfl⟩ := hrel
          go_wp2_with fail
          go_meet
          exact ⟨G5, Lib.hid (Fr.refl _ _)⟩
      · have hk0 : k = 1 := KK.out
        have hb0 : bs = bs' := TT.out
        subst hk0
        subst hb0
        have g0 := cell_of_row w1 B5 0 _ _ (0, 0) G5.out
        have g1 := cell_of_row w1 B5 1 _ _ (0, 0) G5.out
        go_wp2_with fail
        go_loopg [] (385 - bs.length) (fun gk wr => ∃ j : Nat, bs.length + j ≤ 384 ∧ gk = 385 - bs.length - j ∧ Hid (wr.heap[B5]? = some (.cells #[.int .i64 1, .string ⟨(bs ++ List.replicate j 0).toArray⟩] 148 (0, 0))) ∧ Hid (Fr (One B5) w1 wr))
        case atStart => exact ⟨0, by omega, rfl, Lib.hid (by rw [List.replicate_zero, List.append_nil]; exact G5.out), Lib.hid (Fr.refl _ _)⟩
        case round =>
          obtain ⟨j, hj, rfl, h5, f2⟩ := hrel
          obtain ⟨tx, htx⟩ : ∃ tx, tx = bs ++ List.replicate j 0 := ⟨_, rfl⟩
          have hl : tx.length = bs.length + j := by rw [htx]; simp
          rw [← htx] at h5
          have g0 := cell_of_row wr B5 0 _ _ (0, 0) h5.out
          have g1 := cell_of_row wr B5 1 _ _ (0, 0) h5.out
          have z1 := frozen_of_row wr B5 1 _ _ h5.out
          have HL := Lib.hid hl
          have HTX := Lib.hid htx
          by_cases hlt : tx.length < 384
          · have hli : (tx.length : Int) < 384 := by omega
            clear hl htx
            go_wp2_with fail
            go_roundg (385 - bs.length - (j + 1))
            case measure => have := HL.out; omega
            case rel =>
              refine ⟨j + 1, by have := HL.out; omega, rfl, Lib.hid ?_, Lib.hid (f2.out.set1 _)⟩
              rw [heap_setCell_same _ B5 1 _ _ _ h5.out, HTX.out, List.replicate_succ', ← List.append_assoc]
              have e : ({ data := (bs ++ List.replicate j 0).toArray } ++ { data := #[0] } : ByteArray) = ⟨(bs ++ List.replicate j 0 ++ [0]).toArray⟩ := by
                apply ByteArray.ext
                simp
              rw [e]
              rfl
          · have hli : ¬ (tx.length : Int) < 384 := by omega
            clear htx hl
            go_wp2_with fail
            go_meet
            refine ⟨Lib.hid ?_, f2⟩
            have e : finP (.whole bs) = .whole tx := by
              show Pg.whole (pad bs) = _
              rw [HTX.out]
              unfold pad
              have := HL.out
              rw [show 384 - bs.length = j by omega]
            rw [e]
            exact h5.out
    case rest =>
      obtain ⟨h5, f2⟩ := hcut
      generalize wc = w2 at *
      obtain ⟨p, hp⟩ : ∃ p, p = finP x := ⟨_, rfl⟩
      rw [← hp] at h5
      have HP := Lib.hid hp
      clear hp
      have S2 := Lib.hid (S1.out.keep f2.out fun j hj e => by
        have e : j = B5 := e
        have := NE.out
        rcases hj with h | h | h | h
        · exact this.1 (by rw [← e, h])
        · exact this.2.1 (by rw [← e, h])
        · exact this.2.2.1 (by rw [← e, h])
        · exact this.2.2.2 (by rw [← e, h]))
      have hi : i < E.pg.length := by rw [HPE.out]; exact HI.out
      have HIE := Lib.hid hi
      have F2 : Hid (Fr M w w2) := Lib.hid ((FA.out.nob.trans' (F1.out.mono fun j _ e => (HM.out j).2 (.inl e))).trans f2.out fun j hj e => by
        have e : j = B5 := e
        have := HB5.out
        omega)
      obtain ⟨kf, hkf⟩ : ∃ k, k = kindP p := ⟨_, rfl⟩
      obtain ⟨tf, htf⟩ : ∃ t, t = txtP p := ⟨_, rfl⟩
      rw [← hkf, ← htf] at h5
      have HKF := Lib.hid hkf
      have HTF := Lib.hid htf
      have h5d : w2.drew.heap[B5]? = some (.cells #[.int .i64 kf, .string ⟨tf.toArray⟩] 148 (0, 0)) := h5.out
      have g0 := cell_of_row _ B5 0 _ _ (0, 0) h5d
      have g1 := cell_of_row _ B5 1 _ _ (0, 0) h5d
      have SD := S2.out.keep ((Fr.refl Nob w2).drew) fun _ _ h => h
      have c1 := SD.cells.2.1
      have x0 : w2.drew.cell? ⟨gn, i * 2, none⟩ = some (.int .i64 (kindP (E.nows.getD i .blank))) := row_at SD.now (by
        have := pgsV_at E.nows i 0 (by unfold Dv.nows; rw [List.length_map]; exact hi) (by omega)
        rw [Nat.add_zero] at this
        exact this)
      have z0 := row_froz SD.now (i * 2)
      have r1 := row_setg S2.out.now (i * 2) (.int .i64 kf)
      have x2 : (w2.setCell ⟨gn, i * 2, none⟩ (.int .i64 kf)).drew.cell? ⟨gn, i * 2 + 1, none⟩ = some (strB (txtP (E.nows.getD i .blank))) := row_at r1 (by
        rw [List.getElem?_set_ne (by omega)]
        exact pgsV_at E.nows i 1 (by unfold Dv.nows; rw [List.length_map]; exact hi) (by omega))
      have z2 : (w2.setCell ⟨gn, i * 2, none⟩ (.int .i64 kf)).drew.frozen? ⟨gn, i * 2 + 1, none⟩ = false := row_froz r1 (i * 2 + 1)
      have RN : Hid (((w2.setCell ⟨gn, i * 2, none⟩ (.int .i64 kf)).setCell ⟨gn, i * 2 + 1, none⟩ (.string ⟨tf.toArray⟩)).drew.ownsRow 0 148 2 (.slice (some ⟨gn, 0, none⟩) E.pg.length cn) E.pg.length (pgsV (E.nows.set i p))) := Lib.hid (by
        have h := row_setg r1 (i * 2 + 1) (.string ⟨tf.toArray⟩)
        rw [hkf, htf] at h ⊢
        rw [← pgsV_set _ _ _ (by unfold Dv.nows; rw [List.length_map]; exact hi)]
        exact h)
      have FN : Hid (Fr (One gn) w2 ((w2.setCell ⟨gn, i * 2, none⟩ (.int .i64 kf)).setCell ⟨gn, i * 2 + 1, none⟩ (.string ⟨tf.toArray⟩)).drew) := Lib.hid (((Fr.refl (One gn) w2).set1 _).set1 _).drew
      have hi3 : (i : Int) < (E.pg.length : Int) := by omega
      clear hkf htf h5d SD h5 f2 hi G5 F1 H5 S1 r1
      go_wp2_with fail
      go_still_tail 7, (by kernel_rfl)
      change wpList _ _ _ _ _ w2.drew
      go_upto_region 8 with fail
      clear g0 g1 c1 x0 z0 x2 z2
      generalize ((w2.setCell ⟨gn, i * 2, none⟩ (.int .i64 kf)).setCell ⟨gn, i * 2 + 1, none⟩ (.string ⟨tf.toArray⟩)).drew = w3 at *
      have nes := S2.out.nes
      have top3 := FN.out.heap S2.out.top fun e => nes.2.1 e.symm
      have last3 := Lib.hid (FN.out.ownsRow S2.out.last fun k hk e => S2.out.ne (by rw [own_block hk]; exact e))
      have wait3 := Lib.hid (FN.out.ownsRow S2.out.wait fun k hk e => nes.2.2.2.2 (by rw [own_block hk]; exact e.symm))
      have c2 := cell_of_row w3 u 2 _ _ (0, 0) top3
      have TOP3 := Lib.hid top3
      have y0 : ∃ v, w3.cell? ⟨gw, i, none⟩ = some v := by
        have hl := wait3.out.1
        rw [Nat.mul_one] at hl
        exact ⟨_, row_at wait3.out (List.getElem?_eq_getElem (by rw [hl]; exact HIE.out))⟩
      obtain ⟨v0, y0⟩ := y0
      have q0 := row_froz wait3.out i
      have NES := Lib.hid nes
      clear top3 nes
      go_upto_region 9 with fail
      have f4 := (Fr.refl (One gw) w3).set1 (o := i) (.bool true)
      have hlp : (E.put i p).pg.length = E.pg.length := by unfold Dv.put; simp
      have S4 : Hid (RefIn (w3.setCell ⟨gw, i, none⟩ (.bool true)) u gl cl gn cn gw cw { E.put i p with n0 := E.n0 }) := Lib.hid (by
        refine ⟨?_, ?_, ?_, ?_, S2.out.ne, S2.out.arm0, S2.out.arm1, by show 1 ≤ (E.put i p).pg.length; rw [hlp]; exact S2.out.low, by show (E.put i p).pg.length ≤ _; rw [hlp]; exact S2.out.most⟩
        · show (w3.setCell ⟨gw, i, none⟩ (.bool true)).heap[u]? = some (.cells #[.slice _ (E.put i p).pg.length cl, .slice _ (E.put i p).pg.length cn, .slice _ (E.put i p).pg.length cw, .bool E.off, .int .i64 E.arm, .int .i64 E.loss, .int .i64 E.n0, .int .i64 E.n1, .int .i64 E.n2, .int .i64 E.n3] _ _)
          rw [hlp]
          exact f4.heap TOP3.out fun e => NES.out.2.2.1 e.symm
        · show World.ownsRow _ _ _ _ (.slice _ (E.put i p).pg.length cl) (E.put i p).pg.length (pgsV (E.put i p).lasts)
          rw [hlp, lasts_put]
          exact f4.ownsRow last3.out fun k hk e => NES.out.2.2.2.1 (by rw [own_block hk]; exact e)
        · show World.ownsRow _ _ _ _ (.slice _ (E.put i p).pg.length cn) (E.put i p).pg.length (pgsV (E.put i p).nows)
          rw [hlp, nows_put]
          exact f4.ownsRow RN.out fun k hk e => NES.out.2.2.2.2 (by rw [own_block hk]; exact e)
        · show World.ownsRow _ _ _ _ (.slice _ (E.put i p).pg.length cw) (E.put i p).pg.length (boolsV (E.put i p).waitB)
          rw [hlp, waitB_put, ← boolsV_set]
          exact row_setg wait3.out i (.bool true))
      have F4 : Hid (Fr M w (w3.setCell ⟨gw, i, none⟩ (.bool true))) := Lib.hid ((F2.out.trans FN.out fun j _ e => (HM.out j).2 (.inr (.inr (.inl e)))).trans f4 fun j _ e => (HM.out j).2 (.inr (.inr (.inr e))))
      clear y0 q0 c2 f4 hlp TOP3 last3 wait3 RN FN F2
      generalize w3.setCell ⟨gw, i, none⟩ (.bool true) = w4 at *
      have S5 := S4.out.keep ((Fr.refl Nob w4).drew) fun _ _ h => h
      have d6 := S5.cells.2.2.2.2.2.2.1
      have z6 := S5.cells.2.2.2.2.2.2.2.2.2.2 6
      clear S5
      go_still_tail 9, (by kernel_rfl)
      change wpList _ _ _ _ _ w4.drew
      go_wp2_with fail
      go_ret
      rw [HE.out, ← HP.out]
      have f5 := ((Fr.refl (One u) w4).set1 (o := 6) (.int .i64 (inc E.n0))).drew
      refine ⟨rfl, M, ⟨gl, cl, gn, cn, gw, cw, S4.out.retop (D' := E.put i p) f5 ?_ rfl S4.out.arm0 S4.out.arm1, HM.out⟩, F4.out.trans f5 fun j _ e => (HM.out j).2 (.inl e), fun _ h => .inl h⟩
      show (w4.setCell ⟨u, 6, none⟩ (.int .i64 (inc E.n0))).heap[u]? = _
      rw [heap_setCell_same _ u 6 _ _ _ S4.out.top]
      rfl

theorem refWrite_eq {w : World} {u : Nat} {M : Nat → Prop} {D : Dv} (s : RefAt w u M D) {i : Nat} (hi : i < D.pg.length) {bs : List UInt8} (hn : bs.length ≤ 384) (b : Bool) (hb : D.spend.off = b) :
    Calls Try.prog 78 #[.pointer (some ⟨u, 0, none⟩), .int .i64 i, .string ⟨bs.toArray⟩] w fun e w' => e = .returned (.int .i64 (errOff b)) ∧ RfTo w u M w' (D.change i (.whole (pad bs))) := by
  have PU := Lib.hid (refPut_eq s hi (x := .whole bs) (.inr ⟨bs, rfl, hn⟩) b hb)
  clear s hi hn hb
  go_enter Try.func78, Try.ntmps78
  go_wp2_with fail
  refine PU.out.mono ?_
  rintro e w1 ⟨rfl, t⟩
  have T := Lib.hid t
  clear t PU
  go_wp2_with fail
  go_ret
  exact ⟨rfl, T.out⟩
theorem refErase_eq {w : World} {u : Nat} {M : Nat → Prop} {D : Dv} (s : RefAt w u M D) {i : Nat} (hi : i < D.pg.length) (b : Bool) (hb : D.spend.off = b) :
    Calls Try.prog 79 #[.pointer (some ⟨u, 0, none⟩), .int .i64 i] w fun e w' => e = .returned (.int .i64 (errOff b)) ∧ RfTo w u M w' (D.change i .blank) := by
  have PU := Lib.hid (refPut_eq s hi (x := .blank) (.inl rfl) b hb)
  clear s hi hb
  go_enter Try.func79, Try.ntmps79
  go_wp2_with fail
  refine PU.out.mono ?_
  rintro e w1 ⟨rfl, t⟩
  have T := Lib.hid t
  clear t PU
  go_wp2_with fail
  go_ret
  exact ⟨rfl, T.out⟩

end Go.Proofs.Ytpdljgjofebgpaa
