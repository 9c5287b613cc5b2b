/-
  The document's own device: Copy (begun).
-/
import Derived.Test.YtpdljgjofebgpaaRefL
namespace Go.Proofs.Ytpdljgjofebgpaa
open Go.RowKit

theorem row_news {w : World} {base n size g cap : Nat} {t : TypeId} {xs : List Value} (h : w.ownsRow base t size (.slice (some ⟨g, 0, none⟩) n cap) n xs) : ∀ (j : Nat) (v : Value), xs[j]? = some v → w.cell? ((⟨g, 0, none⟩ : Addr).add j) = some v := fun j v hj => h.cells (g := g) rfl j v hj
theorem boolsV_one (l : List Bool) : ∀ v ∈ boolsV l, v.oneCell' = true := fun v hv => by
  unfold boolsV at hv
  rw [List.mem_map] at hv
  obtain ⟨b, _, rfl⟩ := hv
  rfl
theorem empty_row (w : World) (t : TypeId) (size : Nat) : (w.alloc (.cells #[] t)).ownsRow w.heap.size t size (.slice (some ⟨w.heap.size, 0, none⟩) 0 0) 0 [] :=
  ⟨by simp, .inr ⟨w.heap.size, 0, #[], rfl, Nat.le_refl _, heap_alloc_new w _, Nat.le_refl _, by unfold maxLen; omega, by simp, by simp⟩⟩

set_option maxRecDepth 100000 in
set_option maxHeartbeats 4000000 in
theorem refCopy_eq {w : World} {u : Nat} {M : Nat → Prop} {D : Dv} (s : RefAt w u M D) :
    Calls Try.prog 46 #[.pointer (some ⟨u, 0, none⟩)] w fun e w' => ∃ u' M', e = .returned (.pointer (some ⟨u', 0, none⟩)) ∧ RefAt w' u' M' D ∧ Fr Nob w w' ∧ ∀ k, M' k → w.heap.size ≤ k := by
  obtain ⟨gl, cl, gn, cn, gw, cw, s, _⟩ := s
  have S := Lib.hid s
  obtain ⟨c0, c1, c2, c3, c4, c5, c6, c7, c8, c9, _⟩ := s.cells
  obtain ⟨n, hn⟩ : ∃ n, n = D.pg.length := ⟨_, rfl⟩
  have hlow := s.low
  have hmost := s.most
  rw [← hn] at c0 c1 c2 hlow hmost
  have HN := Lib.hid hn
  have LL := Lib.hid (s.last.1)
  have LN := Lib.hid (s.now.1)
  have LW := Lib.hid (s.wait.1)
  rw [← hn] at LL LN LW
  obtain ⟨U, hU⟩ : ∃ U, U = w.heap.size := ⟨_, rfl⟩
  have HU := Lib.hid hU
  have h1 := heap_alloc_new w (.cells #[.slice (some ⟨gl, 0, none⟩) n cl, .slice (some ⟨gn, 0, none⟩) n cn, .slice (some ⟨gw, 0, none⟩) n cw, .bool D.off, .int .i64 D.arm, .int .i64 D.loss, .int .i64 D.n0, .int .i64 D.n1, .int .i64 D.n2, .int .i64 D.n3] 126)
  have f1 := (Fr.refl Nob w).alloc (.cells #[.slice (some ⟨gl, 0, none⟩) n cl, .slice (some ⟨gn, 0, none⟩) n cn, .slice (some ⟨gw, 0, none⟩) n cw, .bool D.off, .int .i64 D.arm, .int .i64 D.loss, .int .i64 D.n0, .int .i64 D.n1, .int .i64 D.n2, .int .i64 D.n3] 126)
  rw [← hU] at h1
  clear s hn
  go_enter Try.func46, Try.ntmps46
  go_upto_region 2 with fail
  rw [← hU]
  clear hU c0 c1 c2 c3 c4 c5 c6 c7 c8 c9
  generalize w.alloc (.cells #[.slice (some ⟨gl, 0, none⟩) n cl, .slice (some ⟨gn, 0, none⟩) n cn, .slice (some ⟨gw, 0, none⟩) n cw, .bool D.off, .int .i64 D.arm, .int .i64 D.loss, .int .i64 D.n0, .int .i64 D.n1, .int .i64 D.n2, .int .i64 D.n3] 126) = w1 at *
  have T1 := Lib.hid h1
  have F1 := Lib.hid f1
  have fa := (Fr.refl Nob w1).alloc (.cells #[] 148)
  have SA := Lib.hid (S.out.keep (F1.out.trans' fa) fun _ _ h => h)
  have cx := SA.out.cells.1
  rw [← HN.out] at cx
  have OA := Lib.hid (empty_row w1 148 2)
  have NA := Lib.hid (row_news SA.out.last)
  have TA := Lib.hid (fa.heap T1.out fun h => h)
  have FA := Lib.hid fa
  have hba : w1.heap.size ≤ (w1.alloc (.cells #[] 148)).heap.size := fa.size
  have hul := lt_of_block T1.out
  clear fa
  go_wp2_with (with_reducible refine wpList_app (o := ⟨some 12, _, _, _, _, _⟩) rfl (.tmp 7) (.tmp 11) 122 rfl 148 #[.int .i64 0, .string ⟨#[]⟩] 2 24 Try.underlying122 page_info rfl (by omega) w1.heap.size (.slice (some ⟨w1.heap.size, 0, none⟩) 0 0) 0 [] rfl OA.out ⟨gl, 0, none⟩ n cl (pgsV D.lasts) rfl LL.out NA.out (pgsV_one _) (by omega) (by omega) hba ?_)
  intro v w2 o2 f2 _
  obtain ⟨ga, ca, rfl⟩ := row_some o2.out hlow
  have hga := (o2.out.lt ga rfl).1
  have gg := f2.out.heap TA.out fun e => by
    have e := own_block e
    omega
  have ff : Fr Nob w1 w2 := FA.out.trans f2.out fun i hi e => by
    have e := own_block e
    omega
  have cU := cell_of_row w2 U 0 _ _ (0, 0) gg
  have zU := frozen_of_row w2 U 0 _ _ gg
  have fs := (Fr.refl (One U) w2).set1 (o := 0) (.slice (some ⟨ga, 0, none⟩) n ca)
  have TN : Hid ((w2.setCell ⟨U, 0, none⟩ (.slice (some ⟨ga, 0, none⟩) n ca)).heap[U]? = some (.cells #[.slice (some ⟨ga, 0, none⟩) n ca, .slice (some ⟨gn, 0, none⟩) n cn, .slice (some ⟨gw, 0, none⟩) n cw, .bool D.off, .int .i64 D.arm, .int .i64 D.loss, .int .i64 D.n0, .int .i64 D.n1, .int .i64 D.n2, .int .i64 D.n3] 126 (0, 0))) := Lib.hid ((heap_setCell_same w2 U 0 _ _ (.slice (some ⟨ga, 0, none⟩) n ca) gg).trans rfl)
  have Ra := Lib.hid (fs.ownsRow o2.out fun j hj e => by
    have hj := own_block hj
    have e : j = U := e
    omega)
  have hsa : ga < w2.heap.size := (o2.out.lt ga rfl).2
  replace F1 := Lib.hid ((F1.out.trans' ff).trans fs fun j hj e => by
    have e : j = U := e
    have := HU.out
    omega)
  have hza := fs.size
  clear T1
  have T1 := TN
  clear TN fs ff gg f2 o2 OA NA TA FA SA hba cx
  go_upto_region 3 with fail
  clear cU zU
  generalize w2.setCell ⟨U, 0, none⟩ (.slice (some ⟨ga, 0, none⟩) n ca) = w3 at *
  have fa := (Fr.refl Nob w3).alloc (.cells #[] 148)
  have SA := Lib.hid (S.out.keep (F1.out.trans' fa) fun _ _ h => h)
  have cx := SA.out.cells.2.1
  rw [← HN.out] at cx
  have OA := Lib.hid (empty_row w3 148 2)
  have NA := Lib.hid (row_news SA.out.now)
  have TA := Lib.hid (fa.heap T1.out fun h => h)
  have FA := Lib.hid fa
  have hba : w3.heap.size ≤ (w3.alloc (.cells #[] 148)).heap.size := fa.size
  have hul := lt_of_block T1.out
  clear fa
  go_wp2_with (with_reducible refine wpList_app (o := ⟨some 19, _, _, _, _, _⟩) rfl (.tmp 14) (.tmp 18) 122 rfl 148 #[.int .i64 0, .string ⟨#[]⟩] 2 24 Try.underlying122 page_info rfl (by omega) w3.heap.size (.slice (some ⟨w3.heap.size, 0, none⟩) 0 0) 0 [] rfl OA.out ⟨gn, 0, none⟩ n cn (pgsV D.nows) rfl LN.out NA.out (pgsV_one _) (by omega) (by omega) hba ?_)
  intro v w4 o2 f2 _
  obtain ⟨gb, cb, rfl⟩ := row_some o2.out hlow
  have hgb := (o2.out.lt gb rfl).1
  have gg := f2.out.heap TA.out fun e => by
    have e := own_block e
    omega
  have ff : Fr Nob w3 w4 := FA.out.trans f2.out fun i hi e => by
    have e := own_block e
    omega
  have cU := cell_of_row w4 U 1 _ _ (0, 0) gg
  have zU := frozen_of_row w4 U 1 _ _ gg
  have fs := (Fr.refl (One U) w4).set1 (o := 1) (.slice (some ⟨gb, 0, none⟩) n cb)
  have TN : Hid ((w4.setCell ⟨U, 1, none⟩ (.slice (some ⟨gb, 0, none⟩) n cb)).heap[U]? = some (.cells #[.slice (some ⟨ga, 0, none⟩) n ca, .slice (some ⟨gb, 0, none⟩) n cb, .slice (some ⟨gw, 0, none⟩) n cw, .bool D.off, .int .i64 D.arm, .int .i64 D.loss, .int .i64 D.n0, .int .i64 D.n1, .int .i64 D.n2, .int .i64 D.n3] 126 (0, 0))) := Lib.hid ((heap_setCell_same w4 U 1 _ _ (.slice (some ⟨gb, 0, none⟩) n cb) gg).trans rfl)
  have Rb := Lib.hid (fs.ownsRow o2.out fun j hj e => by
    have hj := own_block hj
    have e : j = U := e
    omega)
  replace Ra := Lib.hid (fs.ownsRow (ff.ownsRow Ra.out fun _ _ h => h) fun j hj e => by
    have hj := own_block hj
    have e : j = U := e
    omega)
  have hsb : gb < w4.heap.size := (o2.out.lt gb rfl).2
  replace F1 := Lib.hid ((F1.out.trans' ff).trans fs fun j hj e => by
    have e : j = U := e
    have := HU.out
    omega)
  have hzb := fs.size
  clear T1
  have T1 := TN
  clear TN fs ff gg f2 o2 OA NA TA FA SA hba cx
  go_upto_region 4 with fail
  clear cU zU
  generalize w4.setCell ⟨U, 1, none⟩ (.slice (some ⟨gb, 0, none⟩) n cb) = w5 at *
  have fa := (Fr.refl Nob w5).alloc (.cells #[] 4)
  have SA := Lib.hid (S.out.keep (F1.out.trans' fa) fun _ _ h => h)
  have cx := SA.out.cells.2.2.1
  rw [← HN.out] at cx
  have OA := Lib.hid (empty_row w5 4 1)
  have NA := Lib.hid (row_news SA.out.wait)
  have TA := Lib.hid (fa.heap T1.out fun h => h)
  have FA := Lib.hid fa
  have hba : w5.heap.size ≤ (w5.alloc (.cells #[] 4)).heap.size := fa.size
  have hul := lt_of_block T1.out
  clear fa
  go_wp2_with (with_reducible refine wpList_app (o := ⟨some 26, _, _, _, _, _⟩) rfl (.tmp 21) (.tmp 25) 123 rfl 4 #[.bool false] 1 1 Try.underlying123 bool_info rfl (by omega) w5.heap.size (.slice (some ⟨w5.heap.size, 0, none⟩) 0 0) 0 [] rfl OA.out ⟨gw, 0, none⟩ n cw (boolsV D.waitB) rfl LW.out NA.out (boolsV_one _) (by omega) (by omega) hba ?_)
  intro v w6 o2 f2 _
  obtain ⟨gc, cc, rfl⟩ := row_some o2.out hlow
  have hgc := (o2.out.lt gc rfl).1
  have gg := f2.out.heap TA.out fun e => by
    have e := own_block e
    omega
  have ff : Fr Nob w5 w6 := FA.out.trans f2.out fun i hi e => by
    have e := own_block e
    omega
  have cU := cell_of_row w6 U 2 _ _ (0, 0) gg
  have zU := frozen_of_row w6 U 2 _ _ gg
  have fs := (Fr.refl (One U) w6).set1 (o := 2) (.slice (some ⟨gc, 0, none⟩) n cc)
  have TN : Hid ((w6.setCell ⟨U, 2, none⟩ (.slice (some ⟨gc, 0, none⟩) n cc)).heap[U]? = some (.cells #[.slice (some ⟨ga, 0, none⟩) n ca, .slice (some ⟨gb, 0, none⟩) n cb, .slice (some ⟨gc, 0, none⟩) n cc, .bool D.off, .int .i64 D.arm, .int .i64 D.loss, .int .i64 D.n0, .int .i64 D.n1, .int .i64 D.n2, .int .i64 D.n3] 126 (0, 0))) := Lib.hid ((heap_setCell_same w6 U 2 _ _ (.slice (some ⟨gc, 0, none⟩) n cc) gg).trans rfl)
  have Rc := Lib.hid (fs.ownsRow o2.out fun j hj e => by
    have hj := own_block hj
    have e : j = U := e
    omega)
  replace Ra := Lib.hid (fs.ownsRow (ff.ownsRow Ra.out fun _ _ h => h) fun j hj e => by
    have hj := own_block hj
    have e : j = U := e
    omega)
  replace Rb := Lib.hid (fs.ownsRow (ff.ownsRow Rb.out fun _ _ h => h) fun j hj e => by
    have hj := own_block hj
    have e : j = U := e
    omega)
  have hsc : gc < w6.heap.size := (o2.out.lt gc rfl).2
  replace F1 := Lib.hid ((F1.out.trans' ff).trans fs fun j hj e => by
    have e : j = U := e
    have := HU.out
    omega)
  have hzc := fs.size
  clear T1
  have T1 := TN
  clear TN fs ff gg f2 o2 OA NA TA FA SA hba cx
  go_upto_region 5 with fail
  clear cU zU
  generalize w6.setCell ⟨U, 2, none⟩ (.slice (some ⟨gc, 0, none⟩) n cc) = w7 at *
  have hU0 := HU.out
  have s7 := F1.out.size
  go_wp2_with fail
  go_ret
  refine ⟨U, ROwn U ga gb gc, rfl, ⟨ga, ca, gb, cb, gc, cc, ⟨?_, ?_, ?_, ?_, by omega, S.out.arm0, S.out.arm1, S.out.low, S.out.most⟩, fun k => Iff.rfl⟩, F1.out, fun k hk => ?_⟩
  · rw [← HN.out]
    exact T1.out
  · rw [← HN.out]
    exact row_base0 Ra.out
  · rw [← HN.out]
    exact row_base0 Rb.out
  · rw [← HN.out]
    exact row_base0 Rc.out
  · rcases hk with rfl | rfl | rfl | rfl <;> omega

end Go.Proofs.Ytpdljgjofebgpaa
