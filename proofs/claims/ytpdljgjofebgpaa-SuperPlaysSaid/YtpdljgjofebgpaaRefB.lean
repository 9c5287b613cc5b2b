/-
  The document's own device: the relation; gone, Arm, Read.
-/
import Derived.Test.YtpdljgjofebgpaaRefA
import Derived.StillTailTactics
namespace Go.Proofs.Ytpdljgjofebgpaa
open Go.RowKit

structure RefIn (w : World) (u gl cl gn cn gw cw : Nat) (D : Dv) : Prop where
  top : w.heap[u]? = some (.cells #[.slice (some ⟨gl, 0, none⟩) D.pg.length cl, .slice (some ⟨gn, 0, none⟩) D.pg.length cn, .slice (some ⟨gw, 0, none⟩) D.pg.length cw, .bool D.off, .int .i64 D.arm, .int .i64 D.loss, .int .i64 D.n0, .int .i64 D.n1, .int .i64 D.n2, .int .i64 D.n3] 126 (0, 0))
  last : w.ownsRow 0 148 2 (.slice (some ⟨gl, 0, none⟩) D.pg.length cl) D.pg.length (pgsV D.lasts)
  now : w.ownsRow 0 148 2 (.slice (some ⟨gn, 0, none⟩) D.pg.length cn) D.pg.length (pgsV D.nows)
  wait : w.ownsRow 0 4 1 (.slice (some ⟨gw, 0, none⟩) D.pg.length cw) D.pg.length (boolsV D.waitB)
  ne : gl ≠ gn
  arm0 : 0 ≤ D.arm
  arm1 : D.arm ≤ 9223372036854775807
  low : 1 ≤ D.pg.length
  most : D.pg.length ≤ 4096

def ROwn (u gl gn gw : Nat) : Nat → Prop := fun k => k = u ∨ k = gl ∨ k = gn ∨ k = gw
def RefAt (w : World) (u : Nat) (M : Nat → Prop) (D : Dv) : Prop := ∃ gl cl gn cn gw cw, RefIn w u gl cl gn cn gw cw D ∧ ∀ k, M k ↔ ROwn u gl gn gw k
/-- What a call on it leaves. -/
def RfTo (w : World) (u : Nat) (M : Nat → Prop) (w' : World) (D' : Dv) : Prop := ∃ M', RefAt w' u M' D' ∧ Fr M w w' ∧ ∀ k, M' k → M k ∨ w.heap.size ≤ k

theorem RefIn.cells {w : World} {u gl cl gn cn gw cw : Nat} {D : Dv} (s : RefIn w u gl cl gn cn gw cw D) :
    w.cell? ⟨u, 0, none⟩ = some (.slice (some ⟨gl, 0, none⟩) D.pg.length cl) ∧ w.cell? ⟨u, 1, none⟩ = some (.slice (some ⟨gn, 0, none⟩) D.pg.length cn) ∧ w.cell? ⟨u, 2, none⟩ = some (.slice (some ⟨gw, 0, none⟩) D.pg.length cw) ∧
      w.cell? ⟨u, 3, none⟩ = some (.bool D.off) ∧ w.cell? ⟨u, 4, none⟩ = some (.int .i64 D.arm) ∧ w.cell? ⟨u, 5, none⟩ = some (.int .i64 D.loss) ∧ w.cell? ⟨u, 6, none⟩ = some (.int .i64 D.n0) ∧
      w.cell? ⟨u, 7, none⟩ = some (.int .i64 D.n1) ∧ w.cell? ⟨u, 8, none⟩ = some (.int .i64 D.n2) ∧ w.cell? ⟨u, 9, none⟩ = some (.int .i64 D.n3) ∧ ∀ j, w.frozen? ⟨u, j, none⟩ = false := by
  have h := fun j => cell_of_row w u j _ _ (0, 0) s.top
  exact ⟨h 0, h 1, h 2, h 3, h 4, h 5, h 6, h 7, h 8, h 9, fun j => frozen_of_row w u j _ _ s.top⟩
theorem RefIn.nes {w : World} {u gl cl gn cn gw cw : Nat} {D : Dv} (s : RefIn w u gl cl gn cn gw cw D) : gl ≠ u ∧ gn ≠ u ∧ gw ≠ u ∧ gl ≠ gw ∧ gn ≠ gw := by
  obtain ⟨c1, a1, _⟩ := row_cur s.last
  obtain ⟨c2, a2, _⟩ := row_cur s.now
  obtain ⟨c3, a3, _⟩ := row_cur s.wait
  have t := s.top
  refine ⟨fun e => ?_, fun e => ?_, fun e => ?_, fun e => ?_, fun e => ?_⟩
  · rw [e, t] at a1; simp at a1
  · rw [e, t] at a2; simp at a2
  · rw [e, t] at a3; simp at a3
  · rw [e, a3] at a1; simp at a1
  · rw [e, a3] at a2; simp at a2
theorem own_block {g n cap k : Nat} (h : (Value.slice (some ⟨g, 0, none⟩) n cap).ownBlock = some k) : g = k := by simpa [Value.ownBlock] using h
theorem RefIn.keep {w w' : World} {u gl cl gn cn gw cw : Nat} {T : Nat → Prop} {D : Dv} (s : RefIn w u gl cl gn cn gw cw D) (f : Fr T w w') (hT : ∀ k, ROwn u gl gn gw k → ¬ T k) : RefIn w' u gl cl gn cn gw cw D :=
  ⟨f.heap s.top (hT u (.inl rfl)), f.ownsRow s.last fun k hk => hT k (.inr (.inl (own_block hk).symm)), f.ownsRow s.now fun k hk => hT k (.inr (.inr (.inl (own_block hk).symm))), f.ownsRow s.wait fun k hk => hT k (.inr (.inr (.inr (own_block hk).symm))), s.ne, s.arm0, s.arm1, s.low, s.most⟩
theorem RefAt.keep {w w' : World} {u : Nat} {M T : Nat → Prop} {D : Dv} (s : RefAt w u M D) (f : Fr T w w') (hT : ∀ k, M k → ¬ T k) : RefAt w' u M D := by
  obtain ⟨gl, cl, gn, cn, gw, cw, s, h⟩ := s
  exact ⟨gl, cl, gn, cn, gw, cw, s.keep f fun k hk => hT k ((h k).2 hk), h⟩
theorem RefAt.lt {w : World} {u : Nat} {M : Nat → Prop} {D : Dv} (s : RefAt w u M D) : ∀ k, M k → k < w.heap.size := fun k hk => by
  obtain ⟨gl, cl, gn, cn, gw, cw, s, h⟩ := s
  rcases (h k).1 hk with rfl | rfl | rfl | rfl
  · exact lt_of_block s.top
  · exact (s.last.lt _ rfl).2
  · exact (s.now.lt _ rfl).2
  · exact (s.wait.lt _ rfl).2
theorem RefAt.refl {w : World} {u : Nat} {M : Nat → Prop} {D : Dv} (s : RefAt w u M D) : RfTo w u M w D := ⟨M, s, Fr.refl _ _, fun _ h => .inl h⟩
theorem RfTo.trans {w w1 w2 : World} {u : Nat} {M : Nat → Prop} {D1 D2 : Dv} (a : RfTo w u M w1 D1) (b : ∀ M', RefAt w1 u M' D1 → RfTo w1 u M' w2 D2) : RfTo w u M w2 D2 := by
  obtain ⟨M1, s1, f1, h1⟩ := a
  obtain ⟨M2, s2, f2, h2⟩ := b M1 s1
  refine ⟨M2, s2, f1.trans f2 fun i hi h => ?_, fun k hk => ?_⟩
  · rcases h1 i h with h | h
    · exact h
    · omega
  · rcases h2 k hk with h | h
    · exact h1 k h
    · exact .inr (Nat.le_trans f1.size h)

/-- The device's own block alone has turned. -/
theorem RefIn.retop {w w' : World} {u gl cl gn cn gw cw : Nat} {D D' : Dv} (s : RefIn w u gl cl gn cn gw cw D) (f : Fr (One u) w w')
    (h : w'.heap[u]? = some (.cells #[.slice (some ⟨gl, 0, none⟩) D'.pg.length cl, .slice (some ⟨gn, 0, none⟩) D'.pg.length cn, .slice (some ⟨gw, 0, none⟩) D'.pg.length cw, .bool D'.off, .int .i64 D'.arm, .int .i64 D'.loss, .int .i64 D'.n0, .int .i64 D'.n1, .int .i64 D'.n2, .int .i64 D'.n3] 126 (0, 0)))
    (hp : D'.pg = D.pg) (h0 : 0 ≤ D'.arm) (h1 : D'.arm ≤ 9223372036854775807) : RefIn w' u gl cl gn cn gw cw D' := by
  obtain ⟨n1, n2, n3, _, _⟩ := s.nes
  refine ⟨h, ?_, ?_, ?_, s.ne, h0, h1, by rw [hp]; exact s.low, by rw [hp]; exact s.most⟩
  · unfold Dv.lasts
    rw [hp]
    exact f.ownsRow s.last fun k hk e => n1 (by rw [own_block hk]; exact e)
  · unfold Dv.nows
    rw [hp]
    exact f.ownsRow s.now fun k hk e => n2 (by rw [own_block hk]; exact e)
  · unfold Dv.waitB
    rw [hp]
    exact f.ownsRow s.wait fun k hk e => n3 (by rw [own_block hk]; exact e)

def RTop (w w' : World) (u gl cl gn cn gw cw : Nat) (D' : Dv) : Prop := RefIn w' u gl cl gn cn gw cw D' ∧ Fr (One u) w w'

theorem gone_eq {w : World} {u gl cl gn cn gw cw : Nat} {D : Dv} (s : RefIn w u gl cl gn cn gw cw D) (b : Bool) (hb : D.spend.off = b) :
    Calls Try.prog 96 #[.pointer (some ⟨u, 0, none⟩)] w fun e w' => e = .returned (.bool b) ∧ RTop w w' u gl cl gn cn gw cw D.spend := by
  obtain ⟨_, _, _, c2, c3, c4, _, _, _, _, fz⟩ := s.cells
  have S := Lib.hid s
  have top := Lib.hid s.top
  have h0 := s.arm0
  have h1 := s.arm1
  have HB := Lib.hid hb
  clear s hb
  cases hoff : D.off with
  | true =>
    have e := spend_off hoff
    rw [hoff] at c2
    have hb2 : b = true := by rw [← HB.out, e, hoff]
    subst hb2
    have E := Lib.hid e
    clear e HB hoff
    go_enter Try.func96, Try.ntmps96
    go_wp2_with fail
    go_ret
    rw [E.out]
    exact ⟨rfl, S.out, Fr.refl _ _⟩
  | false =>
    rw [hoff] at c2
    by_cases ha : D.arm = 0
    · have e := spend_on hoff (by omega)
      have hb2 : b = false := by rw [← HB.out, e, hoff]
      subst hb2
      rw [ha] at c3
      have E := Lib.hid e
      clear e HB hoff ha h0 h1
      go_enter Try.func96, Try.ntmps96
      go_wp2_with fail
      go_ret
      rw [E.out]
      exact ⟨rfl, S.out, Fr.refl _ _⟩
    · by_cases hone : D.arm = 1
      · have e := spend_last hoff hone
        have hb2 : b = true := by rw [← HB.out, e]
        subst hb2
        rw [hone] at c3
        have E := Lib.hid e
        clear e HB hoff ha h0 h1 hone
        go_enter Try.func96, Try.ntmps96
        go_wp2_with fail
        go_ret
        rw [E.out]
        refine ⟨rfl, S.out.retop ?_ ?_ rfl (Int.le_refl 0) (by show (0 : Int) ≤ _; omega), ?_⟩
        · exact (((Fr.refl (One u) w).set1 _).set1 _).set1 _
        · rw [heap_setCell_same _ u 5 _ _ _ (heap_setCell_same _ u 3 _ _ _ (heap_setCell_same _ u 4 _ _ _ top.out))]
          rfl
        · exact (((Fr.refl (One u) w).set1 _).set1 _).set1 _
      · have e := spend_more hoff (by omega)
        have hb2 : b = false := by rw [← HB.out, e]; exact hoff
        subst hb2
        have E := Lib.hid e
        have OFF := Lib.hid hoff
        have hp : 0 < D.arm := by omega
        have hp1 : 1 < D.arm := by omega
        have hz : (D.arm - 1 == 0) = false := by simpa using by omega
        clear e HB hoff ha h0 hone
        go_enter Try.func96, Try.ntmps96
        go_wp2_with fail
        go_ret
        rw [E.out]
        refine ⟨rfl, S.out.retop ((Fr.refl (One u) w).set1 _) ?_ rfl ?_ ?_, (Fr.refl (One u) w).set1 _⟩
        · rw [heap_setCell_same _ u 4 _ _ _ top.out, OFF.out]
          rfl
        · show 0 ≤ D.arm - 1; omega
        · show D.arm - 1 ≤ _; omega

theorem RefAt.of_top {w w' : World} {u gl cl gn cn gw cw : Nat} {M : Nat → Prop} {D' : Dv} (h : RTop w w' u gl cl gn cn gw cw D') (hM : ∀ k, M k ↔ ROwn u gl gn gw k) : RfTo w u M w' D' :=
  ⟨M, ⟨gl, cl, gn, cn, gw, cw, h.1, hM⟩, h.2.mono fun k _ e => (hM k).2 (.inl e), fun _ h => .inl h⟩

theorem refArm_eq {w : World} {u : Nat} {M : Nat → Prop} {D : Dv} (s : RefAt w u M D) {x : Int} (hx : (Lit.int .i64 x).wf = true) :
    Calls Try.prog 55 #[.pointer (some ⟨u, 0, none⟩), .int .i64 x] w fun e w' => e = .returned (.tuple #[]) ∧ RfTo w u M w' (D.armed x) := by
  obtain ⟨gl, cl, gn, cn, gw, cw, s, hM⟩ := s
  obtain ⟨_, _, _, c2, c3, c4, _, _, _, _, fz⟩ := s.cells
  have S := Lib.hid s
  have top := Lib.hid s.top
  have HM := Lib.hid hM
  have hxr : x ≤ 9223372036854775807 := by
    simp [Lit.wf, IntKind.min, IntKind.max, IntKind.signed, IntKind.bits] at hx
    omega
  clear s hM hx
  by_cases h : x < 1
  · go_enter Try.func55, Try.ntmps55
    go_wp2_with fail
    go_end0
    have ha : (D.armed x).arm = 0 := by
      show (if x < 0 then 0 else x) = 0
      split <;> omega
    refine ⟨rfl, RefAt.of_top ⟨S.out.retop (((Fr.refl (One u) w).set1 _).set1 _) ?_ rfl (by rw [ha]; omega) (by rw [ha]; omega), ((Fr.refl (One u) w).set1 _).set1 _⟩ HM.out⟩
    rw [heap_setCell_same _ u 4 _ _ _ (heap_setCell_same _ u 4 _ _ _ top.out), ha]
    rfl
  · go_enter Try.func55, Try.ntmps55
    go_wp2_with fail
    go_end0
    have ha : (D.armed x).arm = x := by
      show (if x < 0 then 0 else x) = x
      rw [if_neg (by omega)]
    refine ⟨rfl, RefAt.of_top ⟨S.out.retop ((Fr.refl (One u) w).set1 _) ?_ rfl (by rw [ha]; omega) (by rw [ha]; omega), (Fr.refl (One u) w).set1 _⟩ HM.out⟩
    rw [heap_setCell_same _ u 4 _ _ _ top.out, ha]
    rfl

end Go.Proofs.Ytpdljgjofebgpaa
