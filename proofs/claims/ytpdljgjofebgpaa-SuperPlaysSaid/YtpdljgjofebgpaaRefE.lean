/-
  The document's own device: what is no page; Waiting, Read, NewDev.
-/
import Derived.Test.YtpdljgjofebgpaaRefD
namespace Go.Proofs.Ytpdljgjofebgpaa
open Go.RowKit

theorem refPut_bad {w : World} {u : Nat} {M : Nat → Prop} {D : Dv} (s : RefAt w u M D) {x : Int} {k : Int} {bs : List UInt8} (h : (x < 0 ∨ (D.pg.length : Int) ≤ x) ∨ 384 < bs.length) :
    Calls Try.prog 95 #[.pointer (some ⟨u, 0, none⟩), .int .i64 x, .agg #[.int .i64 k, .string ⟨bs.toArray⟩]] w fun e w' => e = .returned (.int .i64 1) ∧ Fr Nob w w' := by
  obtain ⟨gl, cl, gn, cn, gw, cw, s, hM⟩ := s
  have fa := (Fr.refl Nob w).alloc (.cells #[.int .i64 k, .string ⟨bs.toArray⟩] 148)
  have h5 := heap_alloc_new w (.cells #[.int .i64 k, .string ⟨bs.toArray⟩] 148)
  have e1 := (s.keep fa fun _ _ h => h).cells.2.1
  have g1 := cell_of_row _ w.heap.size 1 _ _ (0, 0) h5
  have FA := Lib.hid fa
  have hll := s.most
  have HLL := Lib.hid s.most
  clear s hM h5 fa
  by_cases h1 : x < 0
  · clear h
    go_enter Try.func95, Try.ntmps95
    go_wp2_with fail
    go_ret
    exact ⟨rfl, FA.out⟩
  · by_cases h2 : (D.pg.length : Int) ≤ x
    · clear h
      go_enter Try.func95, Try.ntmps95
      go_wp2_with fail
      go_ret
      exact ⟨rfl, FA.out⟩
    · have h3 : (384 : Int) < (bs.length : Int) := by
        rcases h with (h | h) | h
        · exact absurd h h1
        · exact absurd h h2
        · omega
      clear h
      go_enter Try.func95, Try.ntmps95
      go_wp2_with fail
      go_ret
      exact ⟨rfl, FA.out⟩
theorem refWrite_bad {w : World} {u : Nat} {M : Nat → Prop} {D : Dv} (s : RefAt w u M D) {x : Int} {bs : List UInt8} (h : (x < 0 ∨ (D.pg.length : Int) ≤ x) ∨ 384 < bs.length) :
    Calls Try.prog 78 #[.pointer (some ⟨u, 0, none⟩), .int .i64 x, .string ⟨bs.toArray⟩] w fun e w' => e = .returned (.int .i64 1) ∧ Fr Nob w w' := by
  have PU := Lib.hid (refPut_bad s (k := 1) h)
  clear s h
  go_enter Try.func78, Try.ntmps78
  go_wp2_with fail
  refine PU.out.mono ?_
  rintro e w1 ⟨rfl, t⟩
  have T := Lib.hid t
  clear t PU
  go_wp2_with fail
  go_ret
  exact ⟨rfl, T.out⟩
theorem refErase_bad {w : World} {u : Nat} {M : Nat → Prop} {D : Dv} (s : RefAt w u M D) {x : Int} (h : x < 0 ∨ (D.pg.length : Int) ≤ x) :
    Calls Try.prog 79 #[.pointer (some ⟨u, 0, none⟩), .int .i64 x] w fun e w' => e = .returned (.int .i64 1) ∧ Fr Nob w w' := by
  have PU := Lib.hid (refPut_bad s (k := 0) (bs := []) (.inl h))
  clear s h
  go_enter Try.func79, Try.ntmps79
  go_wp2_with fail
  refine PU.out.mono ?_
  rintro e w1 ⟨rfl, t⟩
  have T := Lib.hid t
  clear t PU
  go_wp2_with fail
  go_ret
  exact ⟨rfl, T.out⟩

/-- The waiting ones among the first. -/
def waitsTo (l : List Pc) (n : Nat) : List Nat := (List.range n).filter fun i => (l.getD i (.blank, none)).2.isSome
theorem waitsTo_len (l : List Pc) : waitsTo l l.length = waits l := rfl
theorem waitsTo_succ (l : List Pc) (n : Nat) : waitsTo l (n + 1) = if (l.getD n (.blank, none)).2.isSome = true then waitsTo l n ++ [n] else waitsTo l n := by
  unfold waitsTo
  rw [List.range_succ, List.filter_append]
  split
  · next h => simp only [List.filter_cons, List.filter_nil, h, if_true]
  · next h =>
    simp only [Bool.not_eq_true] at h
    simp only [List.filter_cons, List.filter_nil, h]
    simp
theorem waitsTo_le (l : List Pc) (n : Nat) : (waitsTo l n).length ≤ n := by
  unfold waitsTo
  have := List.length_filter_le (fun i => (l.getD i (.blank, none)).2.isSome) (List.range n)
  simpa using this
theorem natsV_snoc (l : List Nat) (n : Nat) : natsV (l ++ [n]) = natsV l ++ [.int .i64 (n : Int)] := by unfold natsV; simp

theorem int_info' : (Try.prog.info? 3).map (fun i => (i.zero.map Value.cells, i.size, i.bytes)) = some (some #[.int .i64 0], 1, 8) := by kernel_rfl
theorem waitB_at {D : Dv} {j : Nat} (hj : j < D.pg.length) : (boolsV D.waitB)[j]? = some (.bool (D.pg.getD j (.blank, none)).2.isSome) := by
  unfold boolsV Dv.waitB
  rw [List.map_map, List.getElem?_map, List.getElem?_eq_getElem hj, List.getD_eq_getElem?_getD, List.getElem?_eq_getElem hj]
  rfl

set_option maxRecDepth 100000 in
set_option maxHeartbeats 2000000 in
theorem refWaiting_in {w : World} {u gl cl gn cn gw cw : Nat} {D : Dv} (s : RefIn w u gl cl gn cn gw cw D) :
    Calls Try.prog 91 #[.pointer (some ⟨u, 0, none⟩)] w fun e w' => ∃ v, e = .returned v ∧ w'.ownsRow w.heap.size 3 1 v (waits D.pg).length (natsV (waits D.pg)) ∧ Fr Nob w w' := by
  have S := Lib.hid s
  clear s
  go_enter Try.func91, Try.ntmps91
  go_wp2_with (refine wpList_make_all (o := ⟨some 5, _, _, _, _, _⟩) rfl (.const (.int .i64 0)) (.const (.int .i64 0)) 62 rfl 3 #[.int .i64 0] 1 8 Try.underlying62 int_info' .i64 .i64 0 rfl rfl (by omega) (by omega) ?_)
  intro cs hcs
  have hcs2 : cs = #[] := hcs.out.trans (by unfold madeCells; simp)
  have O0 : Hid ((w.alloc (.cells cs 3)).ownsRow w.heap.size 3 1 (.slice (some ⟨w.heap.size, 0, none⟩) 0 0) 0 (natsV (waitsTo D.pg 0))) := Lib.hid (by
    rw [hcs2]
    exact ⟨rfl, .inr ⟨w.heap.size, 0, #[], rfl, Nat.le_refl _, heap_alloc_new w _, Nat.le_refl _, by unfold maxLen; omega, rfl, rfl⟩⟩)
  have FA := Lib.hid ((Fr.refl Nob w).alloc (.cells cs 3))
  clear hcs hcs2
  go_wp2_with fail
  go_loopw [3, 4] (fun v i wr => ∃ j : Nat, j ≤ D.pg.length ∧ i = .int .i64 j ∧ Hid (wr.ownsRow w.heap.size 3 1 v (waitsTo D.pg j).length (natsV (waitsTo D.pg j))) ∧ Hid (Fr Nob w wr)) (fun _ i _ => D.pg.length - (intOf i).toNat)
  case atStart => exact ⟨0, Nat.zero_le _, rfl, O0, FA⟩
  case round =>
    clear O0 FA
    obtain ⟨j, hj, rfl, o1, f1⟩ := hrel
    have SW := S.out.keep f1.out fun _ _ h => h
    have c2 := SW.cells.2.2.1
    have hsz := f1.out.size
    by_cases hlt : j < D.pg.length
    · have hji : (j : Int) < (D.pg.length : Int) := by omega
      have y0 := row_at SW.wait (waitB_at hlt)
      have hmost := S.out.most
      have hle := waitsTo_le D.pg j
      cases hb : (D.pg.getD j (.blank, none)).2.isSome with
      | false =>
        have HW : Hid (waitsTo D.pg (j + 1) = waitsTo D.pg j) := Lib.hid (by rw [waitsTo_succ, if_neg (by rw [hb]; simp)])
        rw [hb] at y0
        clear SW hb hle
        go_wp2_with fail
        go_roundw
        case rel => exact ⟨j + 1, by omega, by go_num, by rw [HW.out]; exact o1, f1⟩
        case measure => simp [intOf]; omega
      | true =>
        have HW : Hid (waitsTo D.pg (j + 1) = waitsTo D.pg j ++ [j]) := Lib.hid (by rw [waitsTo_succ, if_pos hb])
        rw [hb] at y0
        obtain ⟨ws, hws⟩ : ∃ ws, ws = waitsTo D.pg j := ⟨_, rfl⟩
        rw [← hws] at o1 hle HW
        have fb := (Fr.refl Nob wr).alloc (.cells #[.int .i64 (j : Int)] 3)
        have h24 := heap_alloc_new wr (.cells #[.int .i64 (j : Int)] 3)
        have O2 := Lib.hid (fb.ownsRow o1.out fun _ _ h => h)
        have F2 := Lib.hid (f1.out.trans' fb)
        have NEWS : Hid (∀ (i : Nat) (v : Value), [Value.int .i64 (j : Int)][i]? = some v → (wr.alloc (.cells #[.int .i64 (j : Int)] 3)).cell? ((⟨wr.heap.size, 0, none⟩ : Addr).add i) = some v) := Lib.hid fun i v h => by
          rw [Addr.add_lit, Nat.zero_add, cell_of_row _ wr.heap.size i _ _ (0, 0) h24, ← Array.getElem?_toList]
          exact h
        have ONE : Hid (∀ v ∈ [Value.int .i64 (j : Int)], v.oneCell' = true) := Lib.hid fun v hv => by
          simp only [List.mem_singleton] at hv
          subst hv
          rfl
        have hbase : w.heap.size ≤ (wr.alloc (.cells #[.int .i64 (j : Int)] 3)).heap.size := F2.out.size
        clear SW hb hws fb h24 o1 f1
        go_wp2_with (with_reducible refine wpList_app (o := ⟨some 25, _, _, _, _, _⟩) rfl (.tmp 22) (.tmp 24) 62 rfl 3 #[.int .i64 0] 1 8 Try.underlying62 int_info' rfl (by omega) w.heap.size u3 ws.length (natsV ws) rfl O2.out ⟨wr.heap.size, 0, none⟩ 1 1 [Value.int .i64 (j : Int)] rfl rfl NEWS.out ONE.out (by omega) (by omega) hbase ?_)
        intro v' w6 o6 f6 hor
        have O6 : Hid (w6.ownsRow w.heap.size 3 1 v' (ws ++ [j]).length (natsV (ws ++ [j]))) := Lib.hid (by
          rw [natsV_snoc, List.length_append]
          exact o6.out)
        have F6 : Hid (Fr Nob w w6) := Lib.hid (F2.out.trans f6.out fun i hi h => absurd (O2.out.lt i h).1 (by omega))
        clear o6 f6 hor NEWS ONE O2 F2 hbase hle
        go_wp2_with fail
        go_roundw
        case rel => exact ⟨j + 1, by omega, by go_num, by rw [HW.out]; exact O6, F6⟩
        case measure => simp [intOf]; omega
    · have : j = D.pg.length := by omega
      subst this
      go_wp2_with fail
      go_ret
      exact ⟨_, rfl, o1.out, f1.out⟩

end Go.Proofs.Ytpdljgjofebgpaa
