/-
  The document's own device: On, Flush.
-/
import Derived.Test.YtpdljgjofebgpaaRefB
namespace Go.Proofs.Ytpdljgjofebgpaa
open Go.RowKit

theorem bool_info : (Try.prog.info? 4).map (fun i => (i.zero.map Value.cells, i.size, i.bytes)) = some (some #[.bool false], 1, 1) := by kernel_rfl
theorem page_size : (Try.prog.info? 148).map (·.size) = some 2 := by kernel_rfl
theorem settled_nil (l : List Pc) : settled l [] = l.map fun c => ((c.1, none) : Pc) := by
  apply List.ext_getElem?
  intro i
  unfold settled
  rw [List.getElem?_mapIdx, List.getElem?_map]
  cases h : l[i]? with
  | none => rfl
  | some c =>
    simp only [Option.map_some, fate, List.length_nil, Nat.not_lt_zero, if_false]
    congr 2
    unfold pick
    split <;> rfl
theorem lasts_put (D : Dv) (i : Nat) (p : Pg) : (D.put i p).lasts = D.lasts := by
  unfold Dv.lasts Dv.put
  apply List.ext_getElem?
  intro j
  simp only [List.getElem?_map, List.getElem?_modify]
  cases D.pg[j]? with
  | none => rfl
  | some c =>
    simp only [Option.map_eq_map, Option.map_some]
    split <;> rfl
theorem nows_put (D : Dv) (i : Nat) (p : Pg) : (D.put i p).nows = D.nows.set i p := by
  unfold Dv.nows Dv.put
  apply List.ext_getElem?
  intro j
  simp only [List.getElem?_map, List.getElem?_modify, List.getElem?_set, List.length_map]
  by_cases e : i = j
  · subst e
    rw [if_pos rfl]
    by_cases h : i < D.pg.length
    · rw [List.getElem?_eq_getElem h, if_pos h]
      simp [Pc.now]
    · rw [List.getElem?_eq_none (by omega), if_neg h]
      simp
  · rw [if_neg e]
    cases D.pg[j]? with
    | none => rfl
    | some c => simp [e]
theorem waitB_put (D : Dv) (i : Nat) (p : Pg) : (D.put i p).waitB = D.waitB.set i true := by
  unfold Dv.waitB Dv.put
  apply List.ext_getElem?
  intro j
  simp only [List.getElem?_map, List.getElem?_modify, List.getElem?_set, List.length_map]
  by_cases e : i = j
  · subst e
    rw [if_pos rfl]
    by_cases h : i < D.pg.length
    · rw [List.getElem?_eq_getElem h, if_pos h]
      simp
    · rw [List.getElem?_eq_none (by omega), if_neg h]
      simp
  · rw [if_neg e]
    cases D.pg[j]? with
    | none => rfl
    | some c => simp [e]
theorem map_none (l : List Pc) (f : Pc → Pg) : (l.map fun c => ((f c, none) : Pc)).map (·.1) = l.map f ∧ (l.map fun c => ((f c, none) : Pc)).map Pc.now = l.map f ∧ (l.map fun c => ((f c, none) : Pc)).map (·.2.isSome) = List.replicate l.length false := by
  refine ⟨by rw [List.map_map]; rfl, by rw [List.map_map]; rfl, ?_⟩
  rw [List.map_map]
  exact List.eq_replicate_iff.2 ⟨by simp, fun b hb => by
    rw [List.mem_map] at hb
    obtain ⟨c, _, h⟩ := hb
    exact h.symm⟩

/-- A new row of nothing that waits: the third slice. -/
theorem bools_new (n : Nat) : boolsV (List.replicate n false) = List.replicate n (.bool false) := by unfold boolsV; rw [List.map_replicate]

def Dv.backN (D : Dv) : Dv := { D with pg := D.pg.map fun c => (c.1, if c.2.isSome = true then some c.1 else none) }
def Dv.backL (D : Dv) : Dv := { D with pg := D.pg.map fun c => (Pc.now c, c.2) }
def Dv.noWait (D : Dv) : Dv := { D with pg := D.pg.map fun c => ((c.1, none) : Pc) }

theorem backN_eq (D : Dv) : D.backN.nows = D.backN.lasts := by
  unfold Dv.lasts Dv.nows Dv.backN
  simp only
  rw [List.map_map, List.map_map]
  refine List.map_congr_left fun c _ => ?_
  show (if c.2.isSome = true then some c.1 else none).getD c.1 = c.1
  split <;> rfl
theorem backL_eq (D : Dv) : D.backL.nows = D.backL.lasts := by
  unfold Dv.lasts Dv.nows Dv.backL
  simp only
  rw [List.map_map, List.map_map]
  refine List.map_congr_left fun c _ => ?_
  show c.2.getD (c.2.getD c.1) = c.2.getD c.1
  cases c.2 <;> rfl
theorem backN_noWait (D : Dv) : D.backN.noWait.pg = D.pg.map fun c => ((c.1, none) : Pc) := by
  unfold Dv.noWait Dv.backN
  simp only
  rw [List.map_map]
  rfl
theorem backL_noWait (D : Dv) : D.backL.noWait.pg = D.pg.map fun c => ((Pc.now c, none) : Pc) := by
  unfold Dv.noWait Dv.backL
  simp only
  rw [List.map_map]
  rfl
theorem RefIn.backN {w w2 : World} {u gl cl gn cn gw cw : Nat} {D : Dv} (s : RefIn w u gl cl gn cn gw cw D) (f : Fr (One gn) w w2) (r : w2.ownsRow 0 148 2 (.slice (some ⟨gn, 0, none⟩) D.pg.length cn) D.pg.length (pgsV D.lasts)) : RefIn w2 u gl cl gn cn gw cw D.backN := by
  obtain ⟨_, n2, _, _, n5⟩ := s.nes
  have hl : D.backN.pg.length = D.pg.length := by unfold Dv.backN; simp
  have h1 : D.backN.lasts = D.lasts := by unfold Dv.lasts Dv.backN; simp only; rw [List.map_map]; rfl
  have h2 : D.backN.nows = D.lasts := by
    unfold Dv.lasts Dv.nows Dv.backN
    simp only
    rw [List.map_map]
    refine List.map_congr_left fun c _ => ?_
    show (if c.2.isSome = true then some c.1 else none).getD c.1 = c.1
    split <;> rfl
  have h3 : D.backN.waitB = D.waitB := by
    unfold Dv.waitB Dv.backN
    simp only
    rw [List.map_map]
    refine List.map_congr_left fun c _ => ?_
    show (if c.2.isSome = true then some c.1 else none).isSome = c.2.isSome
    cases c.2 <;> rfl
  refine ⟨?_, ?_, ?_, ?_, s.ne, s.arm0, s.arm1, by rw [hl]; exact s.low, by rw [hl]; exact s.most⟩
  · rw [hl]
    exact f.heap s.top fun e => n2 e.symm
  · rw [hl, h1]
    exact f.ownsRow s.last fun k hk e => s.ne (by rw [own_block hk]; exact e)
  · rw [hl, h2]
    exact r
  · rw [hl, h3]
    exact f.ownsRow s.wait fun k hk e => n5 (by rw [own_block hk]; exact e.symm)
theorem RefIn.backL {w w2 : World} {u gl cl gn cn gw cw : Nat} {D : Dv} (s : RefIn w u gl cl gn cn gw cw D) (f : Fr (One gl) w w2) (r : w2.ownsRow 0 148 2 (.slice (some ⟨gl, 0, none⟩) D.pg.length cl) D.pg.length (pgsV D.nows)) : RefIn w2 u gl cl gn cn gw cw D.backL := by
  obtain ⟨n1, _, _, n4, _⟩ := s.nes
  have hl : D.backL.pg.length = D.pg.length := by unfold Dv.backL; simp
  have h1 : D.backL.lasts = D.nows := by unfold Dv.lasts Dv.nows Dv.backL; simp only; rw [List.map_map]; rfl
  have h2 : D.backL.nows = D.nows := by
    unfold Dv.nows Dv.backL
    simp only
    rw [List.map_map]
    refine List.map_congr_left fun c _ => ?_
    show c.2.getD (c.2.getD c.1) = c.2.getD c.1
    cases c.2 <;> rfl
  have h3 : D.backL.waitB = D.waitB := by
    unfold Dv.waitB Dv.backL
    simp only
    rw [List.map_map]
    rfl
  refine ⟨?_, ?_, ?_, ?_, s.ne, s.arm0, s.arm1, by rw [hl]; exact s.low, by rw [hl]; exact s.most⟩
  · rw [hl]
    exact f.heap s.top fun e => n1 e.symm
  · rw [hl, h1]
    exact r
  · rw [hl, h2]
    exact f.ownsRow s.now fun k hk e => s.ne (by rw [own_block hk]; exact e.symm)
  · rw [hl, h3]
    exact f.ownsRow s.wait fun k hk e => n4 (by rw [own_block hk]; exact e.symm)
theorem RefIn.clear {w : World} {u gl cl gn cn gw cw : Nat} {D : Dv} (s : RefIn w u gl cl gn cn gw cw D) (he : D.nows = D.lasts) {cs : Array Value} (hc : cs = madeCells #[.bool false] (D.pg.length * 1)) :
    RefIn ((w.alloc (.cells cs 4)).setCell ⟨u, 2, none⟩ (.slice (some ⟨w.heap.size, 0, none⟩) D.pg.length D.pg.length)) u gl cl gn cn w.heap.size D.pg.length D.noWait ∧ Fr (One u) w ((w.alloc (.cells cs 4)).setCell ⟨u, 2, none⟩ (.slice (some ⟨w.heap.size, 0, none⟩) D.pg.length D.pg.length)) := by
  obtain ⟨n1, n2, _, _, _⟩ := s.nes
  have hl : D.noWait.pg.length = D.pg.length := by unfold Dv.noWait; simp
  obtain ⟨h1, h2, h3⟩ := map_none D.pg (·.1)
  have fa := (Fr.refl Nob w).alloc (.cells cs 4)
  have f : Fr (One u) w ((w.alloc (.cells cs 4)).setCell ⟨u, 2, none⟩ (.slice (some ⟨w.heap.size, 0, none⟩) D.pg.length D.pg.length)) := ((Fr.refl (One u) w).alloc _).set1 _
  have hu := lt_of_block s.top
  refine ⟨⟨?_, ?_, ?_, ?_, s.ne, s.arm0, s.arm1, by rw [hl]; exact s.low, by rw [hl]; exact s.most⟩, f⟩
  · rw [hl, heap_setCell_same _ u 2 _ _ _ (fa.heap s.top fun h => h)]
    rfl
  · rw [hl]
    show World.ownsRow _ _ _ _ _ _ (pgsV ((D.pg.map fun c => ((c.1, none) : Pc)).map (·.1)))
    rw [h1]
    exact f.ownsRow s.last fun k hk e => n1 (by rw [own_block hk]; exact e)
  · rw [hl]
    show World.ownsRow _ _ _ _ _ _ (pgsV ((D.pg.map fun c => ((c.1, none) : Pc)).map Pc.now))
    rw [h2]
    have h := f.ownsRow s.now fun k hk e => n2 (by rw [own_block hk]; exact e)
    rw [he] at h
    exact h
  · rw [hl]
    show World.ownsRow _ _ _ _ _ _ (boolsV ((D.pg.map fun c => ((c.1, none) : Pc)).map (·.2.isSome)))
    rw [h3, bools_new]
    have hm : cs = (List.replicate D.pg.length (Value.bool false)).toArray := by
      rw [hc, Nat.mul_one]
      unfold madeCells
      apply Array.ext
      · simp
      · intro i h1 h2
        simp [Nat.mod_one]
    have hb : ((w.alloc (.cells cs 4)).setCell ⟨u, 2, none⟩ (.slice (some ⟨w.heap.size, 0, none⟩) D.pg.length D.pg.length)).heap[w.heap.size]? = some (.cells cs 4 (0, 0)) :=
      ((Fr.refl (One u) (w.alloc (.cells cs 4))).set1 (o := 2) _).heap (heap_alloc_new w _) (fun e => by
        have : w.heap.size = u := e
        omega)
    refine ⟨by simp, .inr ⟨w.heap.size, D.pg.length, cs, rfl, Nat.zero_le _, hb, Nat.le_refl _, by
      have := s.most
      unfold maxLen
      omega, by rw [hm]; simp, by rw [hm]; simp⟩⟩

set_option maxRecDepth 100000 in
theorem refOn_eq {w : World} {u : Nat} {M : Nat → Prop} {D : Dv} (s : RefAt w u M D) :
    Calls Try.prog 58 #[.pointer (some ⟨u, 0, none⟩)] w fun e w' => e = .returned (.tuple #[]) ∧ RfTo w u M w' D.on := by
  obtain ⟨gl, cl, gn, cn, gw, cw, s, hM⟩ := s
  have HM := Lib.hid hM
  have SD := Lib.hid (s.keep ((Fr.refl Nob w).drew) fun _ _ h => h)
  obtain ⟨c0, c1, _⟩ := SD.out.cells
  clear hM s
  go_enter Try.func58, Try.ntmps58
  go_wp2_with fail
  go_still_tail 8, (by kernel_rfl)
  change wpList _ _ _ _ _ w.drew
  go_wp2_with (with_reducible refine wpList_copyG (o := ⟨some 10, _, _, _, _, _⟩) rfl (.tmp 5) (.tmp 9) 122 122 rfl 148 2 Try.underlying122 page_size 0 gn gl D.pg.length cn cl rfl rfl (pgsV D.nows) (pgsV D.lasts) SD.out.now SD.out.last (pgsV_one _) ?_)
  intro w2 r2 f2
  have B2 := Lib.hid (SD.out.backN f2.out r2.out)
  have F2 : Hid (Fr M w w2) := Lib.hid (((Fr.refl M w).drew).trans f2.out fun i _ e => (HM.out i).2 (.inr (.inr (.inl e))))
  obtain ⟨n, hn⟩ : ∃ n, n = D.backN.pg.length := ⟨_, rfl⟩
  have hmost := B2.out.most
  have HB2 := Lib.hid (backN_eq D)
  clear r2 f2 SD c0 c1
  obtain ⟨_, e1, _, _, _, e5, _, _, _, _, fz⟩ := B2.out.cells
  rw [← hn] at e1 hmost
  have HN := Lib.hid hn
  clear hn
  go_wp2_with (with_reducible refine wpList_make_all (o := ⟨some 17, _, _, _, _, _⟩) rfl (.tmp 16) (.tmp 16) 123 rfl 4 #[.bool false] 1 1 Try.underlying123 bool_info .i64 .i64 n rfl rfl (by omega) (by omega) ?_)
  intro cs hcs
  have FC := Lib.hid (B2.out.clear HB2.out (cs := cs) (by rw [← HN.out, Nat.mul_one]; exact hcs.out))
  rw [← HN.out] at FC
  have fa := (Fr.refl Nob w2).alloc (.cells cs 4)
  have hu := lt_of_block B2.out.top
  have t5 := fa.cell e5 fun h => h
  have z2 := (fa.frozen (p := ⟨u, 2, none⟩) hu fun h => h).trans (fz 2)
  have z3 := (fa.frozen (p := ⟨u, 3, none⟩) hu fun h => h).trans (fz 3)
  have z4 := (fa.frozen (p := ⟨u, 4, none⟩) hu fun h => h).trans (fz 4)
  have z5 := (fa.frozen (p := ⟨u, 5, none⟩) hu fun h => h).trans (fz 5)
  have t2 := fa.cell B2.out.cells.2.2.1 fun h => h
  have t3 := fa.cell B2.out.cells.2.2.2.1 fun h => h
  have t4 := fa.cell B2.out.cells.2.2.2.2.1 fun h => h
  clear hcs e1 e5 fz fa hu hmost
  go_wp2_with fail
  go_end0
  have f3 := (((Fr.refl (One u) ((w2.alloc (.cells cs 4)).setCell ⟨u, 2, none⟩ (.slice (some ⟨w2.heap.size, 0, none⟩) n n))).set1 (o := 3) (.bool false)).set1 (o := 4) (.int .i64 0)).set1 (o := 5) (.int .i64 (inc D.loss))
  refine ⟨rfl, _, ⟨gl, cl, gn, cn, w2.heap.size, n, FC.out.1.retop (D' := D.on) f3 ?_ ?_ (Int.le_refl 0) (by show (0 : Int) ≤ _; omega), fun k => Iff.rfl⟩, ?_, ?_⟩
  · rw [heap_setCell_same _ u 5 _ _ _ (heap_setCell_same _ u 4 _ _ _ (heap_setCell_same _ u 3 _ _ _ FC.out.1.top))]
    have e : D.on.pg.length = D.backN.noWait.pg.length := by
      rw [backN_noWait]
      show (settled D.pg []).length = _
      rw [settled_nil]
    rw [e]
    rfl
  · rw [backN_noWait]
    exact settled_nil D.pg
  · exact (F2.out.trans (FC.out.2.trans' f3) fun i _ e => (HM.out i).2 (.inl e))
  · intro k hk
    rcases hk with h | h | h | h
    · exact .inl ((HM.out k).2 (.inl h))
    · exact .inl ((HM.out k).2 (.inr (.inl h)))
    · exact .inl ((HM.out k).2 (.inr (.inr (.inl h))))
    · right
      rw [h]
      exact F2.out.size

theorem errOff_t : errOff true = 4 := rfl
theorem errOff_f : errOff false = 0 := rfl

set_option maxRecDepth 100000 in
theorem refFlush_eq {w : World} {u : Nat} {M : Nat → Prop} {D : Dv} (s : RefAt w u M D) (b : Bool) (hb : D.spend.off = b) :
    Calls Try.prog 80 #[.pointer (some ⟨u, 0, none⟩)] w fun e w' => e = .returned (.int .i64 (errOff b)) ∧ RfTo w u M w' D.flush := by
  obtain ⟨gl, cl, gn, cn, gw, cw, s, hM⟩ := s
  have HM := Lib.hid hM
  have HB := Lib.hid hb
  have GO := Lib.hid (gone_eq s b hb)
  clear hM s hb
  go_enter Try.func80, Try.ntmps80
  go_wp2_with fail
  refine GO.out.mono ?_
  rintro e w1 ⟨rfl, s1, f1⟩
  cases b with
  | true =>
    have HE : Hid (D.flush = D.spend) := Lib.hid (by unfold Dv.flush; rw [if_pos HB.out])
    have TO := Lib.hid (RefAt.of_top ⟨s1, f1⟩ HM.out)
    clear s1 f1 GO
    go_wp2_with fail
    go_ret
    rw [HE.out]
    exact ⟨rfl, TO.out⟩
  | false =>
    have HE : Hid (D.flush = D.spend.sunk) := Lib.hid (by unfold Dv.flush; rw [if_neg (by rw [HB.out]; simp)])
    generalize D.spend = E at *
    have SD := Lib.hid (s1.keep ((Fr.refl Nob w1).drew) fun _ _ h => h)
    have F1 := Lib.hid f1
    clear s1 f1 GO HB
    obtain ⟨c0, c1, _⟩ := SD.out.cells
    go_wp2_with fail
    go_still_tail 8, (by kernel_rfl)
    change wpList _ _ _ _ _ w1.drew
    go_wp2_with (with_reducible refine wpList_copyG (o := ⟨some 13, _, _, _, _, _⟩) rfl (.tmp 8) (.tmp 12) 122 122 rfl 148 2 Try.underlying122 page_size 0 gl gn E.pg.length cl cn rfl rfl (pgsV E.lasts) (pgsV E.nows) SD.out.last SD.out.now (pgsV_one _) ?_)
    intro w2 r2 f2
    have B2 := Lib.hid (SD.out.backL f2.out r2.out)
    have F2 : Hid (Fr M w w2) := Lib.hid ((F1.out.mono fun i _ e => (HM.out i).2 (.inl e)).trans ((Fr.refl M w1).drew.trans f2.out fun i _ e => (HM.out i).2 (.inr (.inl e))) fun _ _ h => h)
    obtain ⟨n, hn⟩ : ∃ n, n = E.backL.pg.length := ⟨_, rfl⟩
    have hmost := B2.out.most
    have HB2 := Lib.hid (backL_eq E)
    clear r2 f2 SD c0 c1 F1
    obtain ⟨_, e1, _, _, _, _, _, _, _, _, fz⟩ := B2.out.cells
    rw [← hn] at e1 hmost
    have HN := Lib.hid hn
    clear hn
    go_wp2_with (with_reducible refine wpList_make_all (o := ⟨some 20, _, _, _, _, _⟩) rfl (.tmp 19) (.tmp 19) 123 rfl 4 #[.bool false] 1 1 Try.underlying123 bool_info .i64 .i64 n rfl rfl (by omega) (by omega) ?_)
    intro cs hcs
    have FC := Lib.hid (B2.out.clear HB2.out (cs := cs) (by rw [← HN.out, Nat.mul_one]; exact hcs.out))
    rw [← HN.out] at FC
    have fa := (Fr.refl Nob w2).alloc (.cells cs 4)
    have hu := lt_of_block B2.out.top
    have z2 := (fa.frozen (p := ⟨u, 2, none⟩) hu fun h => h).trans (fz 2)
    have t2 := fa.cell B2.out.cells.2.2.1 fun h => h
    clear hcs e1 fz fa hu hmost
    go_upto_region 5 with fail
    have FC2 := Lib.hid FC.out.2
    have FC1 := Lib.hid FC.out.1
    clear FC z2 t2
    generalize (w2.alloc (.cells cs 4)).setCell ⟨u, 2, none⟩ (.slice (some ⟨w2.heap.size, 0, none⟩) n n) = w3 at *
    have S3 := Lib.hid (FC1.out.keep ((Fr.refl Nob w3).drew) fun _ _ h => h)
    obtain ⟨_, _, _, _, _, _, _, d7, _, _, fz⟩ := S3.out.cells
    have z7 := fz 7
    clear fz
    go_still_tail 9, (by kernel_rfl)
    change wpList _ _ _ _ _ w3.drew
    go_wp2_with fail
    go_ret
    rw [HE.out]
    have f5 := ((Fr.refl (One u) w3).set1 (o := 7) (.int .i64 (inc E.n1))).drew
    refine ⟨rfl, _, ⟨gl, cl, gn, cn, w2.heap.size, n, FC1.out.retop (D' := E.sunk) f5 ?_ ?_ FC1.out.arm0 FC1.out.arm1, fun k => Iff.rfl⟩, ?_, ?_⟩
    · show (w3.setCell ⟨u, 7, none⟩ (.int .i64 (inc E.n1))).heap[u]? = _
      rw [heap_setCell_same _ u 7 _ _ _ FC1.out.top]
      have e : E.sunk.pg.length = E.backL.noWait.pg.length := by
        rw [backL_noWait]
        rfl
      rw [e]
      rfl
    · rw [backL_noWait]
      rfl
    · exact F2.out.trans (FC2.out.trans' f5) fun i _ e => (HM.out i).2 (.inl e)
    · intro k hk
      rcases hk with h | h | h | h
      · exact .inl ((HM.out k).2 (.inl h))
      · exact .inl ((HM.out k).2 (.inr (.inl h)))
      · exact .inl ((HM.out k).2 (.inr (.inr (.inl h))))
      · right
        rw [h]
        exact F2.out.size

end Go.Proofs.Ytpdljgjofebgpaa
