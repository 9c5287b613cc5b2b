/-
  flash: Waiting: the shelf's contracts of maps.Keys and slices.Sorted, over a device.
-/
import Derived.Test.YtpdljgjofebgpaaShelf
import Derived.Test.YtpdljgjofebgpaaFlashE
import Derived.Maps.Own
namespace Go.Proofs.Ytpdljgjofebgpaa
open Go.RowKit Go.Shelf Go.Maps Go.WideElems Go.WideShapes

theorem comp_map {α β γ : Type} (l : List α) (f : α → β) (g : β → γ) : (l.map f).map g = l.map (fun x => g (f x)) := by
  rw [List.map_map]
  rfl

def anyRd : Value → Option (DataW Unit × List MemPlace) := fun _ => some (.nil, [])

theorem keyOf_i {k : Int} (h : (Lit.int .i64 k).wf = true) : keyOf Try.prog 3 (.int .i64 k) = some (.int .i64 k) := by
  simp [keyOf, mapKey, Try.underlying3, h]

theorem own_of {β : Type} {val : β → Value} {w : World} {m : Nat} {L : List (Int × β)} (h : MapIs (Value.int .i64) val w m L) (hk : ∀ k, k ∈ keysM L → (Lit.int .i64 k).wf = true) (hn : L.length ≤ maxLen) :
    ∃ D0 : DataW Unit, w.ownsMap Try.prog 3 anyRd m L.length D0 ∧ (intKeys D0).Perm (keysM L) ∧ Maps.size D0 = L.length := by
  obtain ⟨es, clock, h1, h2, h3, h4, h5⟩ := h
  have hlen : es.toList.length = L.length := by simpa using congrArg List.length h2
  have hat : ∀ (j : Nat) (e : MapEntry), es.toList[j]? = some e → ∃ x, L[j]? = some x ∧ e.key = .int .i64 x.1 := by
    intro j e he
    have e1 : (es.toList.map (fun e => (e.key, e.val)))[j]? = (L.map (fun x => (Value.int .i64 x.1, val x.2)))[j]? := by rw [h2]
    rw [List.getElem?_map, List.getElem?_map, he] at e1
    cases hx : L[j]? with
    | none => rw [hx] at e1; cases e1
    | some x =>
      rw [hx] at e1
      simp only [Option.map_some, Option.some.injEq, Prod.mk.injEq] at e1
      exact ⟨x, rfl, e1.1⟩
  have hrd : ∀ (j : Nat) (e : MapEntry), es.toList[j]? = some e → ∃ x, L[j]? = some x ∧ rd Try.prog 3 anyRd e = some (.int .i64 x.1, .nil) := by
    intro j e he
    obtain ⟨x, hx, hek⟩ := hat j e he
    refine ⟨x, hx, ?_⟩
    have hm : x.1 ∈ keysM L := List.mem_map.2 ⟨x, List.mem_of_getElem? hx, rfl⟩
    unfold rd anyRd
    rw [hek, keyOf_i (hk _ hm)]
    rfl
  have hmap : es.toList.map (fun e => Go.intOf (rg Try.prog 3 anyRd e).1) = keysM L := by
    apply List.ext_getElem?
    intro j
    unfold keysM
    rw [List.getElem?_map, List.getElem?_map]
    cases he : es.toList[j]? with
    | none =>
      have : L[j]? = none := by
        rw [List.getElem?_eq_none_iff] at he ⊢
        omega
      rw [this]
      rfl
    | some e =>
      obtain ⟨x, hx, hr⟩ := hrd j e he
      rw [hx]
      show some (Go.intOf (rg Try.prog 3 anyRd e).1) = some x.1
      rw [rg_of hr]
      rfl
  refine ⟨_, ⟨es, clock, h1, ⟨by rw [← Array.length_toList, hlen]; exact hn, (MapKept.stamped_iff es clock).2 ⟨h5, ?_, ?_⟩, ?_⟩, by rw [← Array.length_toList, hlen]; exact Nat.le_refl _, rfl⟩, ?_, ?_⟩
  · rw [List.Nodup, List.pairwise_map]
    exact h4.imp fun h => by omega
  · rw [List.pairwise_iff_getElem]
    intro i j hi hj hij e
    obtain ⟨x, hx, ex⟩ := hat i _ (List.getElem?_eq_getElem hi)
    obtain ⟨y, hy, ey⟩ := hat j _ (List.getElem?_eq_getElem hj)
    rw [ex, ey] at e
    obtain ⟨hi', rfl⟩ := List.getElem?_eq_some_iff.1 hx
    obtain ⟨hj', rfl⟩ := List.getElem?_eq_some_iff.1 hy
    have := nodup_at h3 hi' hj' (by simpa using e)
    omega
  · intro e he
    obtain ⟨j, hj, rfl⟩ := List.getElem_of_mem he
    obtain ⟨x, _, hr⟩ := hrd j _ (List.getElem?_eq_getElem hj)
    exact ⟨_, hr⟩
  · show ((List.foldr DataW.insert [] (es.toList.map (rg Try.prog 3 anyRd))).map fun p => Go.intOf p.1).Perm _
    refine ((sorted_perm _).map _).trans ?_
    refine List.Perm.of_eq ?_
    rw [comp_map]
    exact hmap
  · show (List.foldr DataW.insert [] (es.toList.map (rg Try.prog 3 anyRd))).length = _
    rw [(sorted_perm _).length_eq, List.length_map, hlen]

theorem sortsA (m : Nat) : AnyZI.SortsIn Try.prog sortedA_ren Fence.wide m :=
  ⟨fun blk off cap ss W hH hblk hsz => callsIn_wide.2 (AnyM.slices_Sort_int sortA blk off cap ss W hH hblk hsz),
   fun p cap W => callsIn_wide.2 (AnyM.slices_Sort_int_none sortA p cap W)⟩

/-- The keys of the map are the pages that wait. -/
theorem DevIn.perm {w : World} {q g cap m : Nat} {vals : List Value} {L : List (Int × Value)} {P : Nat → Prop} {D : Dv} (s : DevIn w q g cap m vals L P D) : (keysM L).Perm ((waits D.pg).map (fun i : Nat => (i : Int))) := by
  have hnd : ((waits D.pg).map (fun i : Nat => (i : Int))).Nodup := by
    rw [List.Nodup, List.pairwise_map]
    exact (waits_sorted _).imp fun h => by omega
  refine (List.perm_ext_iff_of_nodup s.map.nodup hnd).2 fun k => ?_
  rw [List.mem_map]
  constructor
  · intro hk
    obtain ⟨h0, h1⟩ := s.keys k hk
    obtain ⟨i, rfl⟩ := Int.eq_ofNat_of_zero_le h0
    have hi : i < D.pg.length := by omega
    refine ⟨i, waits_mem.2 ⟨hi, ?_⟩, rfl⟩
    rw [List.getD_eq_getElem?_getD, List.getElem?_eq_getElem hi]
    have hw := s.wt i _ (List.getElem?_eq_getElem hi)
    show D.pg[i].2.isSome = true
    cases hc : D.pg[i].2 with
    | none =>
      rw [hc] at hw
      exfalso
      exact absurd hk (fun hk => by
        have := getM_isSome.2 hk
        rw [show getM L (i : Int) = none from hw] at this
        cases this)
    | some p => rfl
  · rintro ⟨i, hi, rfl⟩
    obtain ⟨hi, hs⟩ := waits_mem.1 hi
    rw [List.getD_eq_getElem?_getD, List.getElem?_eq_getElem hi] at hs
    have hw := s.wt i _ (List.getElem?_eq_getElem hi)
    cases hc : D.pg[i].2 with
    | none => rw [Option.getD_some, hc] at hs; cases hs
    | some p =>
      rw [hc] at hw
      obtain ⟨v, hv, _⟩ := hw
      exact getM_isSome.1 (by rw [hv]; rfl)

theorem sort_is {ss : List Int} {ws : List Nat} (hp : ss.Perm (ws.map (fun i : Nat => (i : Int)))) (hs : ws.Pairwise (· < ·)) : ss.mergeSort (fun x y => decide (x ≤ y)) = ws.map (fun i : Nat => (i : Int)) := by
  have tr : ∀ a b c : Int, decide (a ≤ b) = true → decide (b ≤ c) = true → decide (a ≤ c) = true := fun a b c h1 h2 => by simp only [decide_eq_true_eq] at *; exact Int.le_trans h1 h2
  have to : ∀ a b : Int, (decide (a ≤ b) || decide (b ≤ a)) = true := fun a b => by simp only [Bool.or_eq_true, decide_eq_true_eq]; exact Int.le_total a b
  refine List.Perm.eq_of_pairwise (le := fun a b => decide (a ≤ b) = true) (fun a b _ _ h1 h2 => ?_) (List.pairwise_mergeSort tr to ss) ?_ ((List.mergeSort_perm ss _).trans hp)
  · simp only [decide_eq_true_eq] at h1 h2
    exact Int.le_antisymm h1 h2
  · rw [List.pairwise_map]
    exact hs.imp fun h => by simp only [decide_eq_true_eq]; omega

def natsV (l : List Nat) : List Value := l.map fun i : Nat => .int .i64 (i : Int)

set_option maxHeartbeats 1000000 in
theorem waiting_eq {w : World} {q : Nat} {K P : Nat → Prop} {D : Dv} (s : DevAt w q K P D) :
    Calls Try.prog 44 #[.pointer (some ⟨q, 0, none⟩)] w fun e w' => ∃ v, e = .returned v ∧ w'.ownsRow w.heap.size 3 1 v (waits D.pg).length (natsV (waits D.pg)) ∧ Fr Nob w w' := by
  obtain ⟨g, cap, m, vals, L, s, _⟩ := s
  have hwf : ∀ k, k ∈ keysM L → (Lit.int .i64 k).wf = true := fun k hk => by
    obtain ⟨h0, h1⟩ := s.keys k hk
    have := s.most
    exact WalkArith.wf_i64 (by omega)
  have hlen : L.length ≤ 4096 := by
    have h1 : (keysM L).length = L.length := by unfold keysM; simp
    have h2 := s.perm.length_eq
    rw [List.length_map] at h2
    have h3 : (waits D.pg).length ≤ D.pg.length := by
      unfold waits
      exact Nat.le_trans (List.length_filter_le _ _) (by simp)
    have := s.most
    omega
  obtain ⟨D0, hown, hperm, hsize⟩ := own_of s.map hwf (by unfold maxLen; omega)
  have hbl := hown.lt
  have c1 := s.cells.2.1
  have PERM := Lib.hid (hperm.trans s.perm)
  have hmax : Maps.size D0 ≤ maxLen := by rw [hsize]; unfold maxLen; omega
  have hbytes : Maps.size D0 * 8 ≤ 140737488355328 := by rw [hsize]; omega
  have hseq : SeqGives Fence.wide 2 Try.prog 99 #[.pointer (some ⟨w.heap.size, 0, none⟩)] encZ (fun ss => ss.Perm (intKeys D0)) (Maps.size D0) (w.alloc (.cells #[.map (some m)] 97)) :=
    AnyZI.keys_gives (ρ := keysA_ren) { keysA with } Fence.wide _ trivial rfl (by omega) w.heap.size m L.length D0 _ (by simp) (by simp) (by
      obtain ⟨es, clock, hb, Ft, hs, hD⟩ := hown
      exact ⟨es, clock, (Below.heap_alloc _ _ m hbl).trans hb, Ft, hs, hD⟩)
  have cK : ∀ mb W, CallsIn Fence.wide 5 Try.prog 83 #[.map mb] W fun e w' => e = .returned (.func (.func 99) #[] #[.pointer (some ⟨W.heap.size, 0, none⟩)]) ∧ w' = W.alloc (.cells #[.map mb] 97) := fun mb W => AnyZI.keys_in keysA Fence.wide 5 trivial rfl mb W
  have cS := AnyZI.sorted_in sortedA Fence.wide 5 trivial trivial trivial trivial rfl (by omega) (sortsA _) (enters_of Try.func98 (by kernel_rfl) rfl) 99 #[.pointer (some ⟨w.heap.size, 0, none⟩)] trivial (enters_of Try.func99 (by kernel_rfl) rfl) _ _ hmax hbytes _ hseq
  change CallsIn _ _ Try.prog 82 _ _ _ at cS
  have hfK : Fence.wide.fn 83 := trivial
  have hfS : Fence.wide.fn 82 := trivial
  have CS := Lib.hid cS
  clear hseq cS hown hperm hwf hsize hmax hbytes
  refine (callsIn_wide (n := 6)).1 ?_
  refine callsIn_of_wp Try.func44 rfl trivial ?_ rfl
  simp only [Try.ntmps44, List.size_toArray, List.length_cons, List.length_nil, Nat.reduceAdd, Nat.reduceSub, Array.replicate_succ, Array.replicate_zero, List.push_toArray, List.append_toArray, List.nil_append, List.cons_append]
  gi_wp2_with (first
    | (gi_at_call 83; refine (cK _ _).mono ?_; rintro e w' ⟨rfl, rfl⟩)
    | (gi_at_call 82; refine CS.out.mono ?_; rintro e w' ⟨v, ss, rfl, hS, hrow, hnil, hb⟩))
  go_ret
  have hs := sort_is (hS.trans PERM.out) (waits_sorted D.pg)
  have hl : ss.length = (waits D.pg).length := by
    have := (hS.trans PERM.out).length_eq
    rwa [List.length_map] at this
  rw [hs, hl, comp_map, show sortedA_ren.t 26 = 3 from rfl] at hrow
  refine ⟨v, rfl, ownsRow_base_a hrow (by show _ ≤ (w.alloc _).heap.size; simp), ((Fr.refl Nob w).alloc (.cells #[.map (some m)] 97)).trans' ?_⟩
  exact Fr.of_below (by simpa using hb)

end Go.Proofs.Ytpdljgjofebgpaa
