/-
  flash: device and reference beside one another; what 'both' does to each.
-/
import Derived.Test.YtpdljgjofebgpaaRefG
import Derived.Test.YtpdljgjofebgpaaSupH
namespace Go.Proofs.Ytpdljgjofebgpaa
open Go.RowKit

theorem write_bad' {w : World} {q : Nat} {K P : Nat → Prop} {D : Dv} (s : DevAt w q K P D) {x : Int} {v : Value} {bs : List UInt8} (hr : RdB w v bs) (h : (x < 0 ∨ (D.pg.length : Int) ≤ x) ∨ 384 < bs.length) :
    Calls Try.prog 33 #[.pointer (some ⟨q, 0, none⟩), .int .i64 x, v] w fun e w' => e = .returned (.int .i64 1) ∧ w = w' := by
  obtain ⟨a, cap, rfl, _⟩ := hr
  by_cases hx : x < 0 ∨ (D.pg.length : Int) ≤ x
  · have hc := Lib.hid (has_no s hx)
    clear h hx s
    go_enter Try.func33, Try.ntmps33
    go_wp2_with fail
    refine hc.out.mono ?_
    rintro e w' ⟨rfl, rfl⟩
    go_wp2_with fail
    go_ret
    exact ⟨rfl, rfl⟩
  · have hc := Lib.hid (has_yes s (x := x) (by omega) (by omega))
    have h2 : 384 < bs.length := by omega
    have h3 : (384 : Int) < (bs.length : Int) := by omega
    clear h hx s
    go_enter Try.func33, Try.ntmps33
    go_wp2_with fail
    refine hc.out.mono ?_
    rintro e w' ⟨rfl, rfl⟩
    go_wp2_with fail
    go_ret
    exact ⟨rfl, rfl⟩


structure Two (W w : World) (q : Nat) (K : Nat → Prop) (u : Nat) (M : Nat → Prop) (D E : Dv) : Prop where
  dl : DL W w q K M D
  rf : RefAt w u M E
  ap : ∀ k, M k → ¬ K k
  low : ∀ k, M k → W.heap.size ≤ k

section
variable {W w w' : World} {q u : Nat} {K M : Nat → Prop} {D D2 E E2 : Dv}
theorem Two.nob (h : Two W w q K u M D E) (f : Fr Nob w w') : Two W w' q K u M D E := ⟨h.dl.nob f, h.rf.keep f fun _ _ h => h, h.ap, h.low⟩
theorem Two.dev (h : Two W w q K u M D E) (d : DL W w' q K M D2) (f : Fr K w w') : Two W w' q K u M D2 E := ⟨d, h.rf.keep f h.ap, h.ap, h.low⟩
theorem Two.ref (h : Two W w q K u M D E) (t : RfTo w u M w' E2) : ∃ M', Two W w' q K u M' D E2 := by
  obtain ⟨M', r, f, hs⟩ := t
  have hW := h.dl.fr.size
  refine ⟨M', h.dl.grow' f (h.dl.fr.trans f fun i hi hm => absurd (h.low i hm) (by omega)) (fun k hk _ => ⟨hk, h.ap k hk⟩) (fun k hk => (hs k hk).imp id fun h => ⟨h, r.lt k hk⟩), r, fun k hk hkk => ?_, fun k hk => ?_⟩
  · rcases hs k hk with h1 | h1
    · exact h.ap k h1 hkk
    · have := h.dl.klt k hkk
      omega
  · rcases hs k hk with h1 | h1
    · exact h.low k h1
    · omega
end

def writeD (D : Dv) (x : Int) (bs : List UInt8) : Dv := if (x < 0 ∨ (D.pg.length : Int) ≤ x) ∨ 384 < bs.length then D else D.change x.toNat (.whole (pad bs))
def eraseD (D : Dv) (x : Int) : Dv := if x < 0 ∨ (D.pg.length : Int) ≤ x then D else D.change x.toNat .blank
def actD (D : Dv) (op x : Int) (bs : List UInt8) : Dv :=
  if op = 0 then writeD D x bs else if op = 1 then eraseD D x else if op = 2 then D.flush else if op = 3 then D.armed x else if op = 4 then D.crash bs else D.on

section
variable {W w : World} {q : Nat} {K N : Nat → Prop} {D : Dv}
theorem DL.write_any (h : DL W w q K N D) (x : Int) {v : Value} {bs : List UInt8} (hr : RdB w v bs) :
    Calls Try.prog 33 #[.pointer (some ⟨q, 0, none⟩), .int .i64 x, v] w fun e w' => ∃ r, e = .returned (.int .i64 r) ∧ DL W w' q K N (writeD D x bs) ∧ Fr K w w' := by
  by_cases hx : (x < 0 ∨ (D.pg.length : Int) ≤ x) ∨ 384 < bs.length
  · have hk : DL W w q K N (writeD D x bs) := by
      unfold writeD
      rw [if_pos hx]
      exact h
    obtain ⟨P, s, _⟩ := h
    refine (write_bad' s hr hx).mono ?_
    rintro e w' ⟨rfl, rfl⟩
    exact ⟨1, rfl, hk, Fr.refl _ _⟩
  · obtain ⟨i, rfl⟩ : ∃ i : Nat, x = i := ⟨x.toNat, by omega⟩
    have e : writeD D i bs = D.change i (.whole (pad bs)) := by
      unfold writeD
      rw [if_neg hx]
      rfl
    refine (h.write (i := i) (by omega) hr (by omega) _ rfl).mono ?_
    rintro e w' ⟨rfl, d, f⟩
    exact ⟨_, rfl, by rw [e]; exact d, f⟩
theorem DL.erase_any (h : DL W w q K N D) (x : Int) :
    Calls Try.prog 74 #[.pointer (some ⟨q, 0, none⟩), .int .i64 x] w fun e w' => ∃ r, e = .returned (.int .i64 r) ∧ DL W w' q K N (eraseD D x) ∧ Fr K w w' := by
  by_cases hx : x < 0 ∨ (D.pg.length : Int) ≤ x
  · have hk : DL W w q K N (eraseD D x) := by
      unfold eraseD
      rw [if_pos hx]
      exact h
    refine (h.erase_bad hx).mono ?_
    rintro e w' ⟨rfl, rfl⟩
    exact ⟨1, rfl, hk, Fr.refl _ _⟩
  · obtain ⟨i, rfl⟩ : ∃ i : Nat, x = i := ⟨x.toNat, by omega⟩
    have e : eraseD D i = D.change i .blank := by
      unfold eraseD
      rw [if_neg hx]
      rfl
    refine (h.erase (i := i) (by omega) _ rfl).mono ?_
    rintro e w' ⟨rfl, d, f⟩
    exact ⟨_, rfl, by rw [e]; exact d, f⟩
end
section
variable {w : World} {u : Nat} {M : Nat → Prop} {D : Dv}
theorem RefAt.nobTo {w' : World} (s : RefAt w u M D) (f : Fr Nob w w') : RfTo w u M w' D := ⟨M, s.keep f fun _ _ h => h, f.nob, fun _ h => .inl h⟩
theorem refWrite_any (h : RefAt w u M D) (x : Int) (bs : List UInt8) :
    Calls Try.prog 78 #[.pointer (some ⟨u, 0, none⟩), .int .i64 x, .string ⟨bs.toArray⟩] w fun e w' => ∃ r, e = .returned (.int .i64 r) ∧ RfTo w u M w' (writeD D x bs) := by
  by_cases hx : (x < 0 ∨ (D.pg.length : Int) ≤ x) ∨ 384 < bs.length
  · refine (refWrite_bad h hx).mono ?_
    rintro e w' ⟨rfl, f⟩
    refine ⟨1, rfl, ?_⟩
    unfold writeD
    rw [if_pos hx]
    exact h.nobTo f
  · obtain ⟨i, rfl⟩ : ∃ i : Nat, x = i := ⟨x.toNat, by omega⟩
    have e : writeD D i bs = D.change i (.whole (pad bs)) := by
      unfold writeD
      rw [if_neg hx]
      rfl
    refine (refWrite_eq h (i := i) (by omega) (by omega) _ rfl).mono ?_
    rintro e w' ⟨rfl, t⟩
    exact ⟨_, rfl, by rw [e]; exact t⟩
theorem refErase_any (h : RefAt w u M D) (x : Int) :
    Calls Try.prog 79 #[.pointer (some ⟨u, 0, none⟩), .int .i64 x] w fun e w' => ∃ r, e = .returned (.int .i64 r) ∧ RfTo w u M w' (eraseD D x) := by
  by_cases hx : x < 0 ∨ (D.pg.length : Int) ≤ x
  · refine (refErase_bad h hx).mono ?_
    rintro e w' ⟨rfl, f⟩
    refine ⟨1, rfl, ?_⟩
    unfold eraseD
    rw [if_pos hx]
    exact h.nobTo f
  · obtain ⟨i, rfl⟩ : ∃ i : Nat, x = i := ⟨x.toNat, by omega⟩
    have e : eraseD D i = D.change i .blank := by
      unfold eraseD
      rw [if_neg hx]
      rfl
    refine (refErase_eq h (i := i) (by omega) _ rfl).mono ?_
    rintro e w' ⟨rfl, t⟩
    exact ⟨_, rfl, by rw [e]; exact t⟩
end

def BothPost (W : World) (q : Nat) (K : Nat → Prop) (u : Nat) (D E : Dv) (op x : Int) (bs : List UInt8) (e : Ending) (w' : World) : Prop :=
  ∃ r M', e = .returned (.bool r) ∧ Two W w' q K u M' (actD D op x bs) (actD E op x bs)

set_option maxRecDepth 100000 in
set_option maxHeartbeats 4000000 in
theorem both_2 {W w : World} {q u : Nat} {K M : Nat → Prop} {D E : Dv} (h : Two W w q K u M D E) (x : Int) (A : Option Addr) (pn pc : Nat) (bs : List UInt8) :
    Calls Try.prog 41 #[.pointer (some ⟨q, 0, none⟩), .pointer (some ⟨u, 0, none⟩), .agg #[.int .i64 2, .int .i64 x, .slice A pn pc]] w (BothPost W q K u D E 2 x bs) := by
  have fa := (Fr.refl Nob w).alloc (.cells #[.int .i64 2, .int .i64 x, .slice A pn pc] 59)
  have h5 := heap_alloc_new w (.cells #[.int .i64 2, .int .i64 x, .slice A pn pc] 59)
  have T1 := Lib.hid (h.nob fa)
  have c0 := cell_of_row _ w.heap.size 0 _ _ (0, 0) h5
  have FL := Lib.hid (T1.out.dl.flush _ rfl)
  clear h fa h5
  go_enter Try.func41, Try.ntmps41
  go_wp2_with fail
  refine FL.out.mono ?_
  rintro e w1 ⟨rfl, d1, f1⟩
  have T2 := Lib.hid (T1.out.dev d1 f1)
  have RF := Lib.hid (refFlush_eq T2.out.rf _ rfl)
  clear c0 d1 f1 FL T1
  go_wp2_with fail
  refine RF.out.mono ?_
  rintro e w2 ⟨rfl, t⟩
  have T3 := Lib.hid (T2.out.ref t)
  clear t RF T2
  go_wp2_with fail
  go_ret
  obtain ⟨M', t⟩ := T3.out
  exact ⟨_, M', rfl, t⟩
theorem both_3 {W w : World} {q u : Nat} {K M : Nat → Prop} {D E : Dv} (h : Two W w q K u M D E) (x : Int) (hx : (Lit.int .i64 x).wf = true) (A : Option Addr) (pn pc : Nat) (bs : List UInt8) :
    Calls Try.prog 41 #[.pointer (some ⟨q, 0, none⟩), .pointer (some ⟨u, 0, none⟩), .agg #[.int .i64 3, .int .i64 x, .slice A pn pc]] w (BothPost W q K u D E 3 x bs) := by
  have fa := (Fr.refl Nob w).alloc (.cells #[.int .i64 3, .int .i64 x, .slice A pn pc] 59)
  have h5 := heap_alloc_new w (.cells #[.int .i64 3, .int .i64 x, .slice A pn pc] 59)
  have T1 := Lib.hid (h.nob fa)
  have c0 := cell_of_row _ w.heap.size 0 _ _ (0, 0) h5
  have c1 := cell_of_row _ w.heap.size 1 _ _ (0, 0) h5
  have FL := Lib.hid (T1.out.dl.arm hx)
  have HX := Lib.hid hx
  have KB : Hid (¬ K w.heap.size) := Lib.hid (h.dl.fresh _ (Nat.le_refl _))
  have H5 := Lib.hid h5
  clear h fa h5 hx
  go_enter Try.func41, Try.ntmps41
  go_wp2_with fail
  refine FL.out.mono ?_
  rintro e w1 ⟨rfl, d1, f1⟩
  have T2 := Lib.hid (T1.out.dev d1 f1)
  have g1 := cell_of_row _ w.heap.size 1 _ _ (0, 0) (f1.heap H5.out KB.out)
  have RF := Lib.hid (refArm_eq T2.out.rf HX.out)
  clear c0 c1 d1 f1 FL T1
  go_wp2_with fail
  refine RF.out.mono ?_
  rintro e w2 ⟨rfl, t⟩
  have T3 := Lib.hid (T2.out.ref t)
  clear t RF T2
  go_wp2_with fail
  go_ret
  obtain ⟨M', t⟩ := T3.out
  exact ⟨_, M', rfl, t⟩
theorem both_5 {W w : World} {q u : Nat} {K M : Nat → Prop} {D E : Dv} (h : Two W w q K u M D E) (op x : Int) (hop : op < 0 ∨ 4 < op) (A : Option Addr) (pn pc : Nat) (bs : List UInt8) :
    Calls Try.prog 41 #[.pointer (some ⟨q, 0, none⟩), .pointer (some ⟨u, 0, none⟩), .agg #[.int .i64 op, .int .i64 x, .slice A pn pc]] w (BothPost W q K u D E op x bs) := by
  have fa := (Fr.refl Nob w).alloc (.cells #[.int .i64 op, .int .i64 x, .slice A pn pc] 59)
  have h5 := heap_alloc_new w (.cells #[.int .i64 op, .int .i64 x, .slice A pn pc] 59)
  have T1 := Lib.hid (h.nob fa)
  have c0 := cell_of_row _ w.heap.size 0 _ _ (0, 0) h5
  have FL := Lib.hid (T1.out.dl.on)
  have n0 : ¬ op = 0 := by omega
  have n1 : ¬ op = 1 := by omega
  have n2 : ¬ op = 2 := by omega
  have n3 : ¬ op = 3 := by omega
  have n4 : ¬ op = 4 := by omega
  have HA : Hid (∀ D : Dv, actD D op x bs = D.on) := Lib.hid fun D => by
    unfold actD
    rw [if_neg n0, if_neg n1, if_neg n2, if_neg n3, if_neg n4]
  clear h fa h5 hop
  go_enter Try.func41, Try.ntmps41
  go_wp2_with fail
  refine FL.out.mono ?_
  rintro e w1 ⟨rfl, d1, f1⟩
  have T2 := Lib.hid (T1.out.dev d1 f1)
  have RF := Lib.hid (refOn_eq T2.out.rf)
  clear c0 d1 f1 FL T1
  go_wp2_with fail
  refine RF.out.mono ?_
  rintro e w2 ⟨rfl, t⟩
  have T3 := Lib.hid (T2.out.ref t)
  clear t RF T2
  go_wp2_with fail
  go_ret
  obtain ⟨M', t⟩ := T3.out
  exact ⟨_, M', rfl, by rw [HA.out, HA.out]; exact t⟩

end Go.Proofs.Ytpdljgjofebgpaa
