/-
  The document's own device: Read.
-/
import Derived.Test.YtpdljgjofebgpaaRefG
namespace Go.Proofs.Ytpdljgjofebgpaa
open Go.RowKit

def rdE : Pg → Int
  | .blank => 5
  | .torn => 6
  | .whole _ => 0
theorem nows_at {D : Dv} {i : Nat} (hi : i < D.pg.length) : D.nows.getD i .blank = D.now i := by
  unfold Dv.nows Dv.now
  rw [List.getD_eq_getElem?_getD, List.getElem?_map, List.getD_eq_getElem?_getD, List.getElem?_eq_getElem hi]
  rfl

set_option maxRecDepth 100000 in
theorem refRead_eq {w : World} {u : Nat} {M : Nat → Prop} {D : Dv} (s : RefAt w u M D) {i : Nat} (hi : i < D.pg.length) (ho : D.off = false) :
    Calls Try.prog 84 #[.pointer (some ⟨u, 0, none⟩), .int .i64 i] w fun e w' => e = .returned (.tuple #[.string ⟨(txtP (D.now i)).toArray⟩, .int .i64 (rdE (D.now i))]) ∧ RfTo w u M w' D.read := by
  obtain ⟨gl, cl, gn, cn, gw, cw, s, hM⟩ := s
  have HM := Lib.hid hM
  have S := Lib.hid s
  have S0 := s.keep ((Fr.refl Nob w).drew) fun _ _ h => h
  have c1 := s.cells.2.1
  have c3 := s.cells.2.2.2.1
  rw [ho] at c3
  have d8 := S0.cells.2.2.2.2.2.2.2.2.1
  have z8 := S0.cells.2.2.2.2.2.2.2.2.2.2 8
  have hi1 : ¬ (i : Int) < 0 := by omega
  have hi2 : ¬ (D.pg.length : Int) ≤ (i : Int) := by omega
  have hi3 : (i : Int) < (D.pg.length : Int) := by omega
  have hi4 : ¬ D.pg.length ≤ i := by omega
  have HI := Lib.hid hi
  have f5 : Fr (One u) w (w.setCell ⟨u, 8, none⟩ (.int .i64 (inc D.n2))).drew := ((Fr.refl (One u) w).set1 (o := 8) (.int .i64 (inc D.n2))).drew
  have S5 : Hid (RefIn (w.setCell ⟨u, 8, none⟩ (.int .i64 (inc D.n2))).drew u gl cl gn cn gw cw D.read) := Lib.hid (S.out.retop (D' := D.read) f5 (by
    show (w.setCell ⟨u, 8, none⟩ (.int .i64 (inc D.n2))).heap[u]? = _
    rw [heap_setCell_same _ u 8 _ _ _ S.out.top]
    rfl) rfl S.out.arm0 S.out.arm1)
  have TO : Hid (RfTo w u M (w.setCell ⟨u, 8, none⟩ (.int .i64 (inc D.n2))).drew D.read) := Lib.hid ⟨M, ⟨gl, cl, gn, cn, gw, cw, S5.out, hM⟩, f5.mono fun _ _ e => (hM _).2 (.inl e), fun _ h => .inl h⟩
  have hl : i < D.nows.length := by unfold Dv.nows; rw [List.length_map]; exact hi
  have t0 : (w.setCell ⟨u, 8, none⟩ (.int .i64 (inc D.n2))).drew.cell? ⟨gn, i * 2, none⟩ = some (.int .i64 (kindP (D.now i))) := row_at S5.out.now (by
    have := pgsV_at D.nows i 0 hl (by omega)
    rw [Nat.add_zero, nows_at hi] at this
    exact this)
  have t1 : (w.setCell ⟨u, 8, none⟩ (.int .i64 (inc D.n2))).drew.cell? ⟨gn, i * 2 + 1, none⟩ = some (.string ⟨(txtP (D.now i)).toArray⟩) := row_at S5.out.now (by
    have := pgsV_at D.nows i 1 hl (by omega)
    rw [nows_at hi] at this
    exact this)
  have e1 := S5.out.cells.2.1
  clear s hM S0 hi hl f5 ho
  generalize D.now i = p at *
  go_enter Try.func84, Try.ntmps84
  go_wp2_with fail
  go_still_tail 9, (by kernel_rfl)
  change wpList _ _ _ _ _ w.drew
  go_upto_region 6 with fail
  generalize (w.setCell ⟨u, 8, none⟩ (.int .i64 (inc D.n2))).drew = w2 at *
  clear c1 c3 d8 z8
  cases p with
  | blank =>
    simp only [kindP] at t0
    go_wp2_with fail
    go_ret2
    exact ⟨rfl, TO.out⟩
  | torn =>
    simp only [kindP] at t0
    go_wp2_with fail
    go_ret2
    exact ⟨rfl, TO.out⟩
  | whole bs =>
    simp only [kindP] at t0
    simp only [txtP] at t1
    go_wp2_with fail
    go_ret2
    exact ⟨rfl, TO.out⟩

set_option maxRecDepth 100000 in
theorem refRead_off {w : World} {u : Nat} {M : Nat → Prop} {D : Dv} (s : RefAt w u M D) {i : Nat} (hi : i < D.pg.length) (ho : D.off = true) :
    Calls Try.prog 84 #[.pointer (some ⟨u, 0, none⟩), .int .i64 i] w fun e w' => e = .returned (.tuple #[.string ⟨#[]⟩, .int .i64 4]) ∧ w = w' := by
  obtain ⟨gl, cl, gn, cn, gw, cw, s, hM⟩ := s
  have c1 := s.cells.2.1
  have c3 := s.cells.2.2.2.1
  rw [ho] at c3
  have hi1 : ¬ (i : Int) < 0 := by omega
  have hi2 : ¬ (D.pg.length : Int) ≤ (i : Int) := by omega
  have hi4 : ¬ D.pg.length ≤ i := by omega
  clear s hM hi ho
  go_enter Try.func84, Try.ntmps84
  go_wp2_with fail
  go_ret2
  exact ⟨rfl, rfl⟩

end Go.Proofs.Ytpdljgjofebgpaa
