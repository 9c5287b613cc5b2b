/-
  The reference's table: contract of put.
-/
import Derived.Test.YtefjcjmdmnfbhaaRtB
namespace Go.Proofs.Ytefjcjmdmnfbhaa
open Go.RowKit

theorem getElem_modify_ne {α : Type _} (l : List α) (i j : Nat) (f : α → α) (h : i ≠ j) : (l.modify i f)[j]? = l[j]? := by rw [List.getElem?_modify]; simp [h]

section
variable {w w' : World} {W t gn next : Nat} {nw od : List (List ByteArray)} {vo kv vv : Value} {m : List (ByteArray × Int)}
/-- A bucket's chain written anew. -/
theorem RowsAt.set {g b : Nat} {ll : List (List ByteArray)} {l' : List ByteArray} {u : Value} (h : RowsAt w W kv g ll) (hb : b < ll.length) (f : Fr Nob w w') (hu : InR w' W kv u l') :
    RowsAt (w'.setCell ⟨g, b, none⟩ u) W kv g (ll.set b l') := by
  obtain ⟨hW, cs, c, hs, hr⟩ := h
  have c' := f.heap c fun h => h
  have fs : Fr (One g) w' (w'.setCell ⟨g, b, none⟩ u) := (Fr.refl _ _).set1 _
  have ap : ∀ {v : Value} {l : List ByteArray}, InR w' W kv v l → InR (w'.setCell ⟨g, b, none⟩ u) W kv v l := fun hin => hin.keep fs fun k hk e => by
    unfold One at e
    subst e
    obtain ⟨_, _, cs2, c2⟩ := hin.2 _ hk
    rw [c'] at c2
    injection c2 with c2
    injection c2 with _ c2
    exact absurd c2 (by decide)
  refine ⟨hW, _, heap_setCell_same w' g b cs _ u c', by rw [Array.size_setIfInBounds, List.length_set, hs], fun i l hi => ?_⟩
  by_cases e : i = b
  · subst e
    rw [List.getElem?_set_self hb] at hi
    cases hi
    exact ⟨u, by rw [Array.getElem?_setIfInBounds_self_of_lt (by omega)], ap hu⟩
  · rw [List.getElem?_set_ne (Ne.symm e)] at hi
    obtain ⟨v, hv, hin⟩ := hr i l hi
    exact ⟨v, by rw [Array.getElem?_setIfInBounds_ne (Ne.symm e)]; exact hv, ap (hin.keep f fun _ _ h => h)⟩
theorem InR.new {base n : Nat} {v : Value} {l : List ByteArray} (o : w.ownsRow base 9 1 v n (strsV l)) (hW : W ≤ base) (hk : ∀ k, kv.ownBlock = some k → k < base) : InR w W kv v l := by
  refine ⟨RdS.of_row o, fun k e => ⟨?_, fun e2 => ?_, ?_⟩⟩
  · have := (o.lt k e).1
    omega
  · have := (o.lt k e).1
    have := hk k e2
    omega
  · rcases o.2 with ⟨rfl, _⟩ | ⟨g, cap, cur, rfl, _, h2, _⟩
    · cases e
    · have : g = k := by simpa [Value.ownBlock] using e
      subst this
      exact ⟨_, h2⟩
theorem types_ne {k k' : Nat} {cs cs' : Array Value} {a b : TypeId} {f f' : Nat × Nat} (h : w.heap[k]? = some (.cells cs a f)) (h' : w.heap[k']? = some (.cells cs' b f')) (ab : a ≠ b) : k ≠ k' := by
  rintro rfl
  rw [h] at h'
  injection h' with h'
  injection h' with _ e
  exact ab e
theorem RIn.setNow (s : RIn w W t gn nw vo od next kv vv m) {b : Nat} {u : Value} {l' : List ByteArray} (hb : b < nw.length) (hu : InR w W kv u l') :
    RIn (w.setCell ⟨gn, b, none⟩ u) W t gn (nw.set b l') vo od next kv vv m := by
  have fs : Fr (One gn) w (w.setCell ⟨gn, b, none⟩ u) := (Fr.refl _ _).set1 _
  obtain ⟨hWg, cs, c, _⟩ := s.nws
  refine ⟨?_, s.nws.set hb (Fr.refl _ _) hu, ?_, ?_, ?_, s.lo⟩
  · rw [List.length_set]
    exact fs.heap s.hd (types_ne s.hd c (by decide))
  · exact s.ods.keep fs (fun k cs2 hk c2 => hk) fun k cs2 c2 _ => types_ne c2 c (by decide)
  · exact fs.ownsRow s.ks fun k e e2 => ownsRow_ne s.ks c (by decide) (by rw [e]; exact congrArg some e2)
  · exact fs.ownsRow s.vs fun k e e2 => ownsRow_ne s.vs c (by decide) (by rw [e]; exact congrArg some e2)
theorem pushK_set (now : List (List ByteArray)) (k : ByteArray) : pushK now k = now.set (hashK k % now.length) (k :: now.getD (hashK k % now.length) []) := by
  unfold pushK
  apply List.ext_getElem?
  intro i
  rw [List.getElem?_modify, List.getElem?_set]
  by_cases e : hashK k % now.length = i
  · subst e
    by_cases h : hashK k % now.length < now.length
    · simp [h]
    · simp [h]
  · simp [e]

set_option maxHeartbeats 8000000 in
set_option maxRecDepth 100000 in
theorem rput_eq (s : RIn w W t gn nw vo od next kv vv m) (k : ByteArray) (hs : k.size < 9223372036854775808) (h0 : 0 < nw.length) (hb : nw.length ≤ 131072) (hl : (nw.getD (hashK k % nw.length) []).length ≤ 1000001) (hW : W ≤ w.heap.size) :
    Calls Try.prog 37 #[.pointer (some ⟨t, 0, none⟩), .string k] w fun e w' => e = .returned (.tuple #[]) ∧ Hid (RIn w' W t gn (pushK nw k) vo od next kv vv m) ∧ Hid (Fr (One gn) w w') := by
  have hlt := Nat.mod_lt (hashK k) h0
  rw [pushK_set]
  have hh := hashK_lt k
  have HH := Lib.hid fun w => rhash_eq (w := w) k hs
  have d0 : w.cell? ⟨t, 0, none⟩ = some (.slice (some ⟨gn, 0, none⟩) nw.length nw.length) := cell_of_row w t 0 _ _ (0, 0) s.hd
  have SS := Lib.hid s
  have hn0 : ¬ (nw.length : Int) = 0 := by omega
  have HP := Lib.hid h0
  obtain ⟨b, hbe⟩ : ∃ b, hashK k % nw.length = b := ⟨_, rfl⟩
  rw [hbe] at hlt hl ⊢
  have hcast : ((hashK k : Int) % (nw.length : Int)) = ((b : Nat) : Int) := by rw [← hbe]; rfl
  have HC := Lib.hid hcast
  obtain ⟨l, hle⟩ : ∃ l, nw.getD b [] = l := ⟨_, rfl⟩
  rw [hle] at hl ⊢
  have HG := Lib.hid (show nw[b]? = some l by rw [← hle, List.getD_eq_getElem?_getD, List.getElem?_eq_getElem hlt]; rfl)
  have HL := Lib.hid hl
  generalize hashK k = hq at *
  clear s hcast hbe hl hle
  go_enter Try.func37, Try.ntmps37
  go_wp2_with fail
  go_quiet ((go_at_call 42; exact quietL (HH.out _)))
  go_wp2_with fail
  have hw : wrap64 ((hq : Int) % (nw.length : Int)) = (b : Int) := by rw [HC.out]; unfold wrap64; omega
  rw [hw]
  have s2 := SS.out.nob ((Fr.refl Nob w).drewN nq)
  have F2 := Lib.hid ((Fr.refl Nob w).drewN nq)
  clear hw SS d0 HH HC
  generalize w.drewN nq = w2 at *
  have S2 := Lib.hid s2
  obtain ⟨hWg, cs, c, hcs, hr⟩ := s2.nws
  obtain ⟨u, hu, hin⟩ := hr b l HG.out
  have d0 : w2.cell? ⟨t, 0, none⟩ = some (.slice (some ⟨gn, 0, none⟩) nw.length nw.length) := cell_of_row w2 t 0 _ _ (0, 0) s2.hd
  have cb : w2.cell? ⟨gn, b, none⟩ = some u := by rw [cell_of_row w2 gn b _ _ (0, 0) c]; exact hu
  have fz := frozen_of_row w2 gn b _ _ c
  have ne1 : ¬ gn = w2.heap.size := by have := lt_of_block c; omega
  have F3 : Hid (Fr Nob w2 (w2.alloc (.cells #[.string k] 9)).drew) := Lib.hid ((Fr.refl Nob w2).alloc _).drew
  have own : Hid ((w2.alloc (.cells #[.string k] 9)).drew.ownsRow w2.heap.size 9 1 (.slice (some ⟨w2.heap.size, 0, none⟩) 1 1) 1 (strsV [k])) := Lib.hid ⟨rfl, .inr ⟨w2.heap.size, 1, _, rfl, Nat.le_refl _, heap_alloc_new w2 _, Nat.le_refl _, by unfold maxLen; omega, rfl, by simp [strsV]⟩⟩
  have c3 := F3.out.heap c fun h => h
  have a0 : (w2.alloc (.cells #[.string k] 9)).cell? ⟨t, 0, none⟩ = some (.slice (some ⟨gn, 0, none⟩) nw.length nw.length) := F3.out.cell d0 fun h => h
  have ab : (w2.alloc (.cells #[.string k] 9)).cell? ⟨gn, b, none⟩ = some u := F3.out.cell cb fun h => h
  have az : (w2.alloc (.cells #[.string k] 9)).frozen? ⟨gn, b, none⟩ = false := frozen_of_row _ gn b _ _ c3
  have C3 := Lib.hid c3
  have T3 := Lib.hid (F3.out.heap s2.hd fun h => h)
  have BI := Lib.hid hu
  clear c3
  have hlt1 : (b : Int) < (nw.length : Int) := by omega
  have hge : (0 : Int) ≤ (b : Int) := by omega
  have KLT : Hid (∀ q, kv.ownBlock = some q → q < w2.heap.size) := Lib.hid fun q e => (s2.ks.lt q e).2
  have HW := Lib.hid (Nat.le_trans hW F2.out.size)
  have HIN := Lib.hid hin
  have HLT := Lib.hid hlt
  obtain ⟨⟨A, cap, rfl, hcell⟩, _⟩ := hin
  have HCL := Lib.hid hcell
  clear hr hu hcs c hWg s2 hcell hlt h0 hs
  cases l with
  | nil =>
    have X := InR.new (W := W) (kv := kv) own.out HW.out KLT.out
    have XX := Lib.hid X
    clear X
    go_region_law (first
      | (refine step_app_none (o := ⟨some 29, _, _, _, _, _⟩) rfl (.tmp 21) (.tmp 28) 29 rfl 9 #[.string ⟨#[]⟩] 1 16 Try.underlying29 str_info (some ⟨w2.heap.size, 0, none⟩) 1 1 (Nat.le_refl _) rfl A cap rfl ?_))
    all_goals
      go_wp2_with fail
      refine bodyPost_end (results_none rfl _ _ _) rfl ?_
      exact ⟨rfl, Lib.hid ((S2.out.nob F3.out).setNow HLT.out XX.out), Lib.hid (F2.out.nob.trans ((F3.out.nob (S := One gn)).set1 _) fun _ _ h => h)⟩
  | cons x r =>
    obtain ⟨g2, o2, rfl, hc⟩ := HCL.out (by simp)
    have NEWS : Hid (∀ j v, (strsV (x :: r))[j]? = some v → (w2.alloc (.cells #[.string k] 9)).drew.cell? ((⟨g2, o2, none⟩ : Addr).add j) = some v) := Lib.hid fun j v hv => by
      unfold strsV at hv
      rw [List.getElem?_map] at hv
      obtain ⟨y, hy, rfl⟩ := Option.map_eq_some_iff.1 hv
      rw [Addr.add_lit]
      exact F3.out.cell (hc j y hy) fun h => h
    have HN : Hid ((strsV (x :: r)).length = (x :: r).length * 1) := Lib.hid (by unfold strsV; rw [List.length_map, Nat.mul_one])
    have hll := HL.out
    have GW := Lib.hid (lt_of_block C3.out)
    clear hc
    go_region_law (first
      | (refine step_app (o := ⟨some 29, _, _, _, _, _⟩) rfl (.tmp 21) (.tmp 28) 29 rfl 9 #[.string ⟨#[]⟩] 1 16 Try.underlying29 str_info rfl (by omega) w2.heap.size (.slice (some ⟨w2.heap.size, 0, none⟩) 1 1) 1 (strsV [k]) rfl own.out ⟨g2, o2, none⟩ (x :: r).length cap (strsV (x :: r)) rfl HN.out NEWS.out (strsV_one _) (by omega) (by omega) (by simp) ?_
         intro v5 w5 o5 f5 h5
         clear h5
         have NO : Hid (∀ q, q < w2.heap.size → ¬ (fun q => (Value.slice (some ⟨w2.heap.size, 0, none⟩) 1 1).ownBlock = some q) q) := Lib.hid fun q hq e => by simp [Value.ownBlock] at e; omega
         have F5 : Hid (Fr Nob w2 w5) := Lib.hid (F3.out.trans f5.out fun q hq e => NO.out q hq e)
         obtain ⟨hWg5, cs5, c5, hcs5, hr5⟩ := (S2.out.nob F5.out).nws
         have p0 : w5.cell? ⟨t, 0, none⟩ = some (.slice (some ⟨gn, 0, none⟩) nw.length nw.length) := F5.out.cell d0 fun h => h
         have pb : w5.cell? ⟨gn, b, none⟩ = some (.slice (some ⟨g2, o2, none⟩) (x :: r).length cap) := F5.out.cell cb fun h => h
         have pz : w5.frozen? ⟨gn, b, none⟩ = false := frozen_of_row _ gn b _ _ c5
         obtain ⟨a5, cap5, rfl, _⟩ := own_shape o5.out
         have O5 := Lib.hid o5.out
         clear hWg5 hcs5 hr5 c5 f5 o5 NO))
    all_goals
      have X := InR.new (W := W) (kv := kv) (l := k :: x :: r) O5.out HW.out KLT.out
      have XX := Lib.hid X
      clear X
      go_wp2_with fail
      refine bodyPost_end (results_none rfl _ _ _) rfl ?_
      exact ⟨rfl, Lib.hid ((S2.out.nob F5.out).setNow HLT.out XX.out), Lib.hid (F2.out.nob.trans ((F5.out.nob (S := One gn)).set1 _) fun _ _ h => h)⟩
end
end Go.Proofs.Ytefjcjmdmnfbhaa
