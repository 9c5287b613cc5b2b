/-
  dram: the contract of Clear.
-/
import Derived.Test.YtpbbokpmlemboaaShelfD
import Derived.Test.YtpbbokpmlemboaaDrG
import Derived.Test.YtpbbokpmlemboaaDrE
import Derived.Maps.Own
namespace Go.Proofs.Ytpbbokpmlemboaa
open Go.RowKit Go.Shelf Go.Maps Go.WideElems Go.WideShapes Sl

theorem comp_map {α β γ : Type} (l : List α) (f : α → β) (g : β → γ) : (l.map f).map g = l.map (fun x => g (f x)) := by
  rw [List.map_map]
  rfl
def anyRd : Value → Option (DataW Unit × List MemPlace) := fun _ => some (.nil, [])
theorem keyOf_i {k : Int} (h : (Lit.int .i64 k).wf = true) : keyOf Try.prog 3 (.int .i64 k) = some (.int .i64 k) := by
  simp [keyOf, mapKey, Try.underlying3, h]
theorem own_of {β : Type} {val : β → Value} {w : World} {m : Nat} {L : List (Int × β)} (h : MapIs (Value.int .i64) val w m L) (hk : ∀ k, k ∈ keysM L → (Lit.int .i64 k).wf = true) (hn : L.length ≤ maxLen) :
    ∃ D0 : DataW Unit, w.ownsMap Try.prog 3 anyRd m L.length D0 ∧ (intKeys D0).Perm (keysM L) ∧ Maps.size D0 = L.length := by
  obtain ⟨es, clock, h1, h2, h3, h4, h5⟩ := h
  have hlen : es.toList.length = L.length := by simpa using congrArg List.length h2
  have hat : ∀ (j : Nat) (e : MapEntry), es.toList[j]? = some e → ∃ x, L[j]? = some x ∧ e.key = .int .i64 x.1 := by
    intro j e he
    have e1 : (es.toList.map (fun e => (e.key, e.val)))[j]? = (L.map (fun x => (Value.int .i64 x.1, val x.2)))[j]? := by rw [h2]
    rw [List.getElem?_map, List.getElem?_map, he] at e1
    cases hx : L[j]? with
    | none => rw [hx] at e1; cases e1
    | some x =>
      rw [hx] at e1
      simp only [Option.map_some, Option.some.injEq, Prod.mk.injEq] at e1
      exact ⟨x, rfl, e1.1⟩
  have hrd : ∀ (j : Nat) (e : MapEntry), es.toList[j]? = some e → ∃ x, L[j]? = some x ∧ rd Try.prog 3 anyRd e = some (.int .i64 x.1, .nil) := by
    intro j e he
    obtain ⟨x, hx, hek⟩ := hat j e he
    refine ⟨x, hx, ?_⟩
    have hm : x.1 ∈ keysM L := List.mem_map.2 ⟨x, List.mem_of_getElem? hx, rfl⟩
    unfold rd anyRd
    rw [hek, keyOf_i (hk _ hm)]
    rfl
  have hmap : es.toList.map (fun e => Go.intOf (rg Try.prog 3 anyRd e).1) = keysM L := by
    apply List.ext_getElem?
    intro j
    unfold keysM
    rw [List.getElem?_map, List.getElem?_map]
    cases he : es.toList[j]? with
    | none =>
      have : L[j]? = none := by
        rw [List.getElem?_eq_none_iff] at he ⊢
        omega
      rw [this]
      rfl
    | some e =>
      obtain ⟨x, hx, hr⟩ := hrd j e he
      rw [hx]
      show some (Go.intOf (rg Try.prog 3 anyRd e).1) = some x.1
      rw [rg_of hr]
      rfl
  refine ⟨_, ⟨es, clock, h1, ⟨by rw [← Array.length_toList, hlen]; exact hn, (MapKept.stamped_iff es clock).2 ⟨h5, ?_, ?_⟩, ?_⟩, by rw [← Array.length_toList, hlen]; exact Nat.le_refl _, rfl⟩, ?_, ?_⟩
  · rw [List.Nodup, List.pairwise_map]
    exact h4.imp fun h => by omega
  · rw [List.pairwise_iff_getElem]
    intro i j hi hj hij e
    obtain ⟨x, hx, ex⟩ := hat i _ (List.getElem?_eq_getElem hi)
    obtain ⟨y, hy, ey⟩ := hat j _ (List.getElem?_eq_getElem hj)
    rw [ex, ey] at e
    obtain ⟨hi', rfl⟩ := List.getElem?_eq_some_iff.1 hx
    obtain ⟨hj', rfl⟩ := List.getElem?_eq_some_iff.1 hy
    have := nodup_at h3 hi' hj' (by simpa using e)
    omega
  · intro e he
    obtain ⟨j, hj, rfl⟩ := List.getElem_of_mem he
    obtain ⟨x, _, hr⟩ := hrd j _ (List.getElem?_eq_getElem hj)
    exact ⟨_, hr⟩
  · show ((List.foldr DataW.insert [] (es.toList.map (rg Try.prog 3 anyRd))).map fun p => Go.intOf p.1).Perm _
    refine ((sorted_perm _).map _).trans ?_
    refine List.Perm.of_eq ?_
    rw [comp_map]
    exact hmap
  · show (List.foldr DataW.insert [] (es.toList.map (rg Try.prog 3 anyRd))).length = _
    rw [(sorted_perm _).length_eq, List.length_map, hlen]
theorem sortsA (m : Nat) : AnyZI.SortsIn Try.prog sortedA_ren Fence.wide m :=
  ⟨fun blk off cap ss W hH hblk hsz => callsIn_wide.2 (AnyM.slices_Sort_int sortA blk off cap ss W hH hblk hsz),
   fun p cap W => callsIn_wide.2 (AnyM.slices_Sort_int_none sortA p cap W)⟩

theorem skeys_eq {w : World} {m : Nat} {L : List (Int × Ou)} (h : MapIs (Value.int .i64) outV w m L) (hk : ∀ k, k ∈ keysM L → (Lit.int .i64 k).wf = true) (hn : L.length ≤ 100000) :
    Calls Try.prog 36 #[.map (some m)] w (fun e w' => e = .returned (.func (.func 54) #[] #[.pointer (some ⟨w.heap.size, 0, none⟩)]) ∧ w' = w.alloc (.cells #[.map (some m)] 60)) ∧
    Calls Try.prog 35 #[.func (.func 54) #[] #[.pointer (some ⟨w.heap.size, 0, none⟩)]] (w.alloc (.cells #[.map (some m)] 60)) fun e w' => ∃ v ss, e = .returned v ∧ ss.Perm (keysM L) ∧ w'.ownsRow w.heap.size 3 1 v ss.length (ints ss) ∧ Fr Nob w w' := by
  obtain ⟨D0, hown, hperm, hsize⟩ := own_of h hk (by unfold maxLen; omega)
  have hbl := hown.lt
  have hmax : Maps.size D0 ≤ maxLen := by rw [hsize]; unfold maxLen; omega
  have hbytes : Maps.size D0 * 8 ≤ 140737488355328 := by rw [hsize]; omega
  have hseq : SeqGives Fence.wide 2 Try.prog 54 #[.pointer (some ⟨w.heap.size, 0, none⟩)] encZ (fun ss => ss.Perm (intKeys D0)) (Maps.size D0) (w.alloc (.cells #[.map (some m)] 60)) :=
    AnyZI.keys_gives (ρ := keysA_ren) { keysA with } Fence.wide _ trivial rfl (by omega) w.heap.size m L.length D0 _ (by simp) (by simp) (by
      obtain ⟨es, clock, hb, Ft, hs, hD⟩ := hown
      exact ⟨es, clock, (Below.heap_alloc _ _ m hbl).trans hb, Ft, hs, hD⟩)
  have cK : CallsIn Fence.wide 5 Try.prog 36 #[.map (some m)] w fun e w' => e = .returned (.func (.func 54) #[] #[.pointer (some ⟨w.heap.size, 0, none⟩)]) ∧ w' = w.alloc (.cells #[.map (some m)] 60) := AnyZI.keys_in keysA Fence.wide 5 trivial rfl (some m) w
  have cS := AnyZI.sorted_in sortedA Fence.wide 5 trivial trivial trivial trivial rfl (by omega) (sortsA _) (enters_of Try.func53 (by kernel_rfl) rfl) 54 #[.pointer (some ⟨w.heap.size, 0, none⟩)] trivial (enters_of Try.func54 (by kernel_rfl) rfl) _ _ hmax hbytes _ hseq
  change CallsIn _ _ Try.prog 35 _ _ _ at cS
  refine ⟨callsIn_wide.1 cK, (callsIn_wide.1 cS).mono ?_⟩
  rintro e w' ⟨v, ss, rfl, hS, hrow, hnil, hb⟩
  rw [show sortedA_ren.t 26 = 3 from rfl] at hrow
  have hlen : ss.length = (ss.mergeSort (fun x y => decide (x ≤ y))).length := (List.mergeSort_perm ss _).length_eq.symm
  refine ⟨v, ss.mergeSort (fun x y => decide (x ≤ y)), rfl, (List.mergeSort_perm ss _).trans (hS.trans hperm), ?_, ((Fr.refl Nob w).alloc (.cells #[.map (some m)] 60)).trans' (Fr.of_below (by simpa using hb))⟩
  rw [← hlen]
  exact row_base (by simp) hrow
end Go.Proofs.Ytpbbokpmlemboaa
