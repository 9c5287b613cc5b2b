/-
  flash: 'both': Write (by go_region_held3).
-/
import Derived.Test.YtpdljgjofebgpaaRefI
import Derived.Deep.RegionHeld3
namespace Go.Proofs.Ytpdljgjofebgpaa
open Go.RowKit

set_option maxRecDepth 100000 in
set_option maxHeartbeats 16000000 in
theorem both_0 {W w : World} {q u : Nat} {K M : Nat → Prop} {D E : Dv} (h : Two W w q K u M D E) (x : Int) (A : Option Addr) (pn pc : Nat) (bs : List UInt8) (hr : RdB W (.slice A pn pc) bs) (hn : pn ≤ 140737488355328) :
    Calls Try.prog 41 #[.pointer (some ⟨q, 0, none⟩), .pointer (some ⟨u, 0, none⟩), .agg #[.int .i64 0, .int .i64 x, .slice A pn pc]] w (BothPost W q K u D E 0 x bs) := by
  have fa := (Fr.refl Nob w).alloc (.cells #[.int .i64 0, .int .i64 x, .slice A pn pc] 59)
  have h5 := heap_alloc_new w (.cells #[.int .i64 0, .int .i64 x, .slice A pn pc] 59)
  have hsa : (w.alloc (.cells #[.int .i64 0, .int .i64 x, .slice A pn pc] 59)).heap.size = w.heap.size + 1 := by simp
  have KB : Hid (¬ K w.heap.size) := Lib.hid (h.dl.fresh _ (Nat.le_refl _))
  obtain ⟨B5, hB5⟩ : ∃ B, B = w.heap.size := ⟨_, rfl⟩
  rw [← hB5] at h5 hsa KB
  have MB : Hid (¬ M B5) := Lib.hid fun hm => by
    have := h.rf.lt B5 hm
    omega
  have TA := Lib.hid (h.nob fa)
  have HB5 := Lib.hid hB5
  have HR := Lib.hid hr
  clear h fa hr
  have c0 := cell_of_row _ B5 0 _ _ (0, 0) h5
  go_enter Try.func41, Try.ntmps41
  go_upto_region 5 with fail
  rw [← hB5]
  clear hB5
  generalize w.alloc (.cells #[.int .i64 0, .int .i64 x, .slice A pn pc] 59) = wa at *
  have own0 : (wa.alloc (.cells #[] 5)).drew.ownsRow wa.heap.size 5 1 (.slice (some ⟨wa.heap.size, 0, none⟩) 0 0) 0 [] := ⟨rfl, .inr ⟨wa.heap.size, 0, #[], rfl, Nat.le_refl _, heap_alloc_new wa _, Nat.le_refl _, by unfold maxLen; omega, rfl, rfl⟩⟩
  have fb : Fr Nob wa (wa.alloc (.cells #[] 5)).drew := ((Fr.refl Nob wa).alloc (.cells #[] 5)).drew
  have h5b := fb.heap h5 fun h => h
  have c1 : wa.drew.cell? ⟨B5, 1, none⟩ = some (.int .i64 x) := cell_of_row _ B5 1 _ _ (0, 0) h5
  have c2 : wa.drew.cell? ⟨B5, 2, none⟩ = some (.slice A pn pc) := cell_of_row _ B5 2 _ _ (0, 0) h5
  have e1 : (wa.alloc (.cells #[] 5)).drew.cell? ⟨B5, 1, none⟩ = some (.int .i64 x) := cell_of_row _ B5 1 _ _ (0, 0) h5b
  have e2 : (wa.alloc (.cells #[] 5)).drew.cell? ⟨B5, 2, none⟩ = some (.slice A pn pc) := cell_of_row _ B5 2 _ _ (0, 0) h5b
  have CV : Hid (∀ w', Fr Nob W w' → (convert 34 9 (.slice A pn pc)).run Try.prog w' = .ok (.string ⟨bs.toArray⟩) w') := Lib.hid fun w' f => (HR.out.nob f).text _ _ _ Try.underlying34 Try.underlying5 Try.underlying9
  have v1 : (convert 34 9 (.slice A pn pc)).run Try.prog wa.drew = .ok (.string ⟨bs.toArray⟩) wa.drew := CV.out _ TA.out.dl.fr.drew
  have v2 : (convert 34 9 (.slice A pn pc)).run Try.prog (wa.alloc (.cells #[] 5)).drew = .ok (.string ⟨bs.toArray⟩) (wa.alloc (.cells #[] 5)).drew := CV.out _ (TA.out.dl.fr.trans' fb)
  have RB := Lib.hid (HR.out.nob (TA.out.dl.fr.trans' fb))
  have O0 := Lib.hid own0
  have FB := Lib.hid fb
  have H5 := Lib.hid h5b
  have HGB : Hid (wa.heap.size ≤ wa.heap.size ∧ wa.heap.size < (wa.alloc (.cells #[] 5)).drew.heap.size) := Lib.hid ⟨Nat.le_refl _, by show wa.heap.size < (wa.alloc (.cells #[] 5)).heap.size; simp⟩
  have NB : Hid (B5 ≠ wa.heap.size) := Lib.hid (by omega)
  have hB : wa.heap.size ≤ (wa.alloc (.cells #[] 5)).drew.heap.size := fb.size
  clear own0 fb h5b h5 hsa c0
  go_region_held3 (fun w' => w'.cell? ⟨B5, 1, none⟩ = some (.int .i64 x) ∧ w'.cell? ⟨B5, 2, none⟩ = some (.slice A pn pc) ∧ (convert 34 9 (.slice A pn pc)).run Try.prog w' = .ok (.string ⟨bs.toArray⟩) w')
    (first | go_keep | exact ⟨c1, c2, v1⟩ | exact ⟨e1, e2, v2⟩ | exact ⟨p1, p2, v3⟩ | exact ⟨q1, q2, v4⟩ | exact ⟨s1, s2, v5⟩)
    (first
    | (refine step_app_fresh (o := ⟨some 21, _, _, _, _, _⟩) rfl (.tmp 18) (.tmp 20) rfl wa.heap.size wa.heap.size rfl O0.out A pn pc bs rfl RB.out hn hB ?_
       intro va vn vc w2 rb f2 hb
       have T2 := Lib.hid (TA.out.fresh FB.out HGB.out f2.out)
       have G5 := Lib.hid (f2.out.heap H5.out NB.out)
       have p1 := cell_of_row _ B5 1 _ _ (0, 0) G5.out
       have p2 := cell_of_row _ B5 2 _ _ (0, 0) G5.out
       have v3 := CV.out _ T2.out.dl.fr
       clear f2 hb)
    | (go_at_call 33; refine (T2.out.dl.write_any x rb.out).mono ?_; rintro e w3 ⟨r3, rfl, d3, f3⟩; have T3 := Lib.hid (T2.out.dev d3 f3); have Q5 := Lib.hid (f3.heap G5.out KB.out); have q1 := cell_of_row _ B5 1 _ _ (0, 0) Q5.out; have q2 := cell_of_row _ B5 2 _ _ (0, 0) Q5.out; have v4 := CV.out _ T3.out.dl.fr; clear d3 f3)
    | (go_at_call 78; refine (refWrite_any T3.out.rf x bs).mono ?_; rintro e w4 ⟨r4, rfl, t⟩; have T4 := Lib.hid (T3.out.ref t); have S5 := Lib.hid (by obtain ⟨M', rr, ff, hs⟩ := t; exact ff.heap Q5.out MB.out); have s1 := cell_of_row _ B5 1 _ _ (0, 0) S5.out; have s2 := cell_of_row _ B5 2 _ _ (0, 0) S5.out; have v5 := CV.out _ (by obtain ⟨_, tt⟩ := T4.out; exact tt.dl.fr); clear t))
  all_goals
    go_wp2_with fail
    go_ret
    obtain ⟨M', t⟩ := T4.out
    exact ⟨_, M', rfl, t⟩

end Go.Proofs.Ytpdljgjofebgpaa
