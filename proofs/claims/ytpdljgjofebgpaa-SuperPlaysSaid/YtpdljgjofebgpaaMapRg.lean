/-
  Maps of Maps.lean: a range over one; 'clear'.
-/
import Derived.Test.YtpdljgjofebgpaaMapOps
import Derived.Maps.RangeWalk
namespace Go.Proofs.Ytpdljgjofebgpaa
open Go.RowKit ChangeMaps MapKept WideShapes

theorem fr_setBlock' {w : World} {r : Nat} {o : Obj} (h : w.heap[r]? = some o) (o' : Obj) : Fr (One r) w (setBlock w r o') :=
  ⟨rfl, rfl, rfl, by simp [setBlock], fun i _ hi => (heap_set (o' := o') h).2 i (fun e => hi e)⟩

section
variable {α β : Type} [DecidableEq α] {d : TypeDesc} {key : α → Value} {val : β → Value}

omit [DecidableEq α] in
theorem run_clearM {P : Program} {w : World} {t k e : TypeId} (ht : P.underlying t = some (.map k e)) {r : Nat} {L : List (α × β)} (h : MapIs key val w r L) (ty : TypeId) :
    ∃ w', (Builtin.clear_ #[t] ty #[.map (some r)]).run P w = .ok (.tuple #[]) w' ∧ MapIs key val w' r ([] : List (α × β)) ∧ Fr (One r) w w' := by
  obtain ⟨es, clock, h1, _⟩ := h
  refine ⟨setBlock w r (.map #[] clock), ?_, ⟨#[], clock, heap_setBlock_same h1 _, rfl, List.nodup_nil, List.Pairwise.nil, fun _ h => by cases h⟩, fr_setBlock h1 _⟩
  simp [Builtin.clear_, run_underlying ht, run_getObj_map w r es clock h1, MapKept.run_setObj_map _ h1, setBlock, Result.andThen]

omit [DecidableEq α] in
/-- At a 'clear': '.. ?_; intro w2 m2 f2'. -/
theorem wpList_clearM {P : Program} {ops : Array Oper} {rest : List Oper} {o : Oper} {ac : Act} {w : World} {Q : Exit → Act → World → Prop} (hg : o.guard = none) (m : Operand) (t : TypeId) (hop : o.op = .call { callee := .builtin .clear, args := #[m], argTypes := #[t] })
    {k e : TypeId} (ht : P.underlying t = some (.map k e)) {r : Nat} {L : List (α × β)} (h : MapIs key val w r L) (hm : ac.eval m = .map (some r))
    (hK : ∀ w', MapIs key val w' r ([] : List (α × β)) → Fr (One r) w w' → wpList P ops Q rest (ac.put o.dst (.tuple #[])) w') : wpList P ops Q (o :: rest) ac w :=
  wpList_plain hg fun _ hK' => by
    obtain ⟨w', hr, h1, h2⟩ := run_clearM ht h o.type
    unfold Oper.wp
    simp [execOp, hop, resolve, invoke, builtin, hm, hr, Result.andThen]
    exact hK' _ _ (hK w' h1 h2)

/-- A range over the map m of the pairs L is under way, its iterator at r: 'left' says of each key whether it is still to come. -/
def MapRg (key : α → Value) (val : β → Value) (w : World) (m r : Nat) (L : List (α × β)) (left : α → Bool) : Prop :=
  ∃ es clock since seen c0, w.heap[m]? = some (.map es clock) ∧ es.toList.map (fun e => (e.key, e.val)) = L.map (fun x => (key x.1, val x.2)) ∧ (keysM L).Nodup ∧
    es.toList.Pairwise (fun a b => a.born < b.born) ∧ (∀ e, e ∈ es.toList → e.born < clock) ∧ w.heap[r]? = some (.mapIter (some m) since seen c0) ∧ (∀ e, e ∈ es.toList → e.born < since) ∧
    (∀ (j : Nat) (x : α × β) (e : MapEntry), L[j]? = some x → es.toList[j]? = some e → left x.1 = !seen.contains e.born) ∧ since ≤ c0 ∧ since ≤ clock

variable {w : World} {m r : Nat} {L : List (α × β)} {left : α → Bool}

omit [DecidableEq α] in
theorem MapRg.is (h : MapRg key val w m r L left) : MapIs key val w m L := by
  obtain ⟨es, clock, since, seen, c0, h1, h2, h3, h4, h5, _⟩ := h
  exact ⟨es, clock, h1, h2, h3, h4, h5⟩
omit [DecidableEq α] in
theorem MapRg.keep {w' : World} {S : Nat → Prop} (h : MapRg key val w m r L left) (f : Fr S w w') (hm : ¬ S m) (hr : ¬ S r) : MapRg key val w' m r L left := by
  obtain ⟨es, clock, since, seen, c0, h1, h2, h3, h4, h5, h6, h7⟩ := h
  exact ⟨es, clock, since, seen, c0, f.heap h1 hm, h2, h3, h4, h5, f.heap h6 hr, h7⟩
omit [DecidableEq α] in
theorem MapRg.ne (h : MapRg key val w m r L left) : r ≠ m := by
  obtain ⟨es, clock, since, seen, c0, h1, _, _, _, _, h6, _⟩ := h
  intro e
  rw [e, h1] at h6
  cases h6
omit [DecidableEq α] in
theorem MapRg.lt (h : MapRg key val w m r L left) : r < w.heap.size := by
  obtain ⟨es, clock, since, seen, c0, _, _, _, _, _, h6, _⟩ := h
  exact (Array.getElem?_eq_some_iff.1 h6).1
omit [DecidableEq α] in
theorem MapRg.left_keep {w' : World} {S : Nat → Prop} (h : MapRg key val w m r L left) (f : Fr S w w') (hm : ¬ S m) (hr : ¬ S r) : w'.rangeLeft m r = w.rangeLeft m r := by
  unfold World.rangeLeft
  rw [f.block m h.is.lt hm, f.block r h.lt hr]

omit [DecidableEq α] in
theorem MapIs.range {P : Program} {t k e : TypeId} (h : MapIs key val w m L) (ht : P.underlying t = some (.map k e)) :
    ∃ w', (Instr.range t (.map (some m))).run P w = .ok (.pointer (some ⟨w.heap.size, 0, none⟩)) w' ∧ MapRg key val w' m w.heap.size L (fun _ => true) ∧ Fr Nob w w' := by
  have hlt := h.lt
  obtain ⟨es, clock, h1, h2, h3, h4, h5⟩ := h
  refine ⟨_, run_range_map w t k e m es clock ht h1, ⟨es, clock, clock, #[], clock, ((MapKept.heap_alloc w _).2 m hlt).trans h1, h2, h3, h4, h5, (MapKept.heap_alloc w _).1, h5, fun _ _ _ _ _ => by simp, Nat.le_refl _, Nat.le_refl _⟩, (Fr.refl Nob w).alloc _⟩

theorem born_of {es : List MapEntry} (h : es.Pairwise (fun a b => a.born < b.born)) {i j : Nat} {a b : MapEntry} (hi : es[i]? = some a) (hj : es[j]? = some b) (he : a.born = b.born) : i = j := by
  obtain ⟨hi', rfl⟩ := List.getElem?_eq_some_iff.1 hi
  obtain ⟨hj', rfl⟩ := List.getElem?_eq_some_iff.1 hj
  rw [List.pairwise_iff_getElem] at h
  rcases Nat.lt_trichotomy i j with h1 | h1 | h1
  · have := h i j hi' hj' h1; omega
  · exact h1
  · have := h j i hj' hi' h1; omega

/-- The step. -/
theorem MapRg.next {P : Program} (h : MapRg key val w m r L left) (ty : TypeId) :
    ((∀ x, x ∈ L → left x.1 = false) ∧ (Instr.next (.pointer (some ⟨r, 0, none⟩)) false ty).run P w = .ok (.tuple #[.bool false]) w) ∨
    ∃ x w', x ∈ L ∧ left x.1 = true ∧ (Instr.next (.pointer (some ⟨r, 0, none⟩)) false ty).run P w = .ok (.tuple #[.bool true, key x.1, val x.2]) w' ∧
      MapRg key val w' m r L (fun a => left a && !decide (a = x.1)) ∧ w'.rangeLeft m r < w.rangeLeft m r ∧ Fr (One r) w w' ∧ (Instr.entry (.pointer (some ⟨r, 0, none⟩))).run P w' = .ok (.tuple #[key x.1, val x.2]) w' := by
  have hne := h.ne
  obtain ⟨es, clock, since, seen, c0, h1, h2, h3, h4, h5, h6, h7, h8, h9, h10⟩ := h
  have hlen : es.toList.length = L.length := by simpa using congrArg List.length h2
  rcases run_next_at (P := P) w ty r m since c0 seen es clock h6 h1 h7 h9 with ⟨h0, hrun⟩ | ⟨e, he, w1, hal, hrun⟩
  · refine .inl ⟨fun x hx => ?_, hrun⟩
    obtain ⟨j, hj, rfl⟩ := List.getElem_of_mem hx
    have hj' : j < es.toList.length := by omega
    have hs := h8 j _ _ (List.getElem?_eq_getElem hj) (List.getElem?_eq_getElem hj')
    rw [hs]
    have hno : leftOf es seen = #[] := Array.eq_empty_of_size_eq_zero h0
    cases hc : seen.contains es.toList[j].born with
    | true => rfl
    | false =>
      exfalso
      have : es.toList[j] ∈ (leftOf es seen).toList := by
        unfold leftOf
        rw [Array.toList_filter, List.mem_filter]
        exact ⟨List.getElem_mem hj', by rw [hc]; rfl⟩
      rw [hno] at this
      cases this
  · have hem : e ∈ es.toList ∧ seen.contains e.born = false := by
      unfold leftOf at he
      rw [Array.toList_filter, List.mem_filter] at he
      exact ⟨he.1, by simpa using he.2⟩
    obtain ⟨j, hj, rfl⟩ := List.getElem_of_mem hem.1
    have hj' : j < L.length := by omega
    have hkv : (es.toList[j].key, es.toList[j].val) = (key L[j].1, val L[j].2) := by
      have e1 : (es.toList.map (fun e => (e.key, e.val)))[j]? = (L.map (fun x => (key x.1, val x.2)))[j]? := by rw [h2]
      rw [List.getElem?_map, List.getElem?_map, List.getElem?_eq_getElem hj, List.getElem?_eq_getElem hj'] at e1
      simpa using e1
    simp only [Prod.mk.injEq] at hkv
    have hleft := h8 j _ _ (List.getElem?_eq_getElem hj') (List.getElem?_eq_getElem hj)
    rw [hem.2] at hleft
    have hr1 : w1.heap[r]? = some (.mapIter (some m) since seen c0) := by rcases hal with rfl | rfl <;> exact h6
    have hb1 : w1.heap[m]? = some (.map es clock) := by rcases hal with rfl | rfl <;> exact h1
    have hset := heap_set (o' := .mapIter (some m) since (seen.push es.toList[j].born) clock) hr1
    have hb' : (setBlock w1 r (.mapIter (some m) since (seen.push es.toList[j].born) clock)).heap[m]? = some (.map es clock) := (hset.2 m (fun e1 => hne e1.symm)).trans hb1
    have hr2 : (setBlock w1 r (.mapIter (some m) since (seen.push es.toList[j].born) clock)).heap[r]? = some (.mapIter (some m) since (seen.push es.toList[j].born) clock) := hset.1
    have hnd : (es.toList.map (·.born)).Nodup := by
      rw [List.Nodup, List.pairwise_map]
      exact h4.imp fun h => by omega
    rw [hkv.1, hkv.2] at hrun
    refine .inr ⟨L[j], _, List.getElem_mem hj', by simpa using hleft, hrun, ⟨es, clock, since, seen.push es.toList[j].born, clock, hb', h2, h3, h4, h5, hset.1, h7, fun i x e hx hxe => ?_, h10, h10⟩, ?_, ?_, ?_⟩
    · have hs := h8 i x e hx hxe
      show (left x.1 && !decide (x.1 = L[j].1)) = _
      rw [hs, contains_push]
      have hiff : (x.1 = L[j].1) ↔ (e.born = es.toList[j].born) := by
        obtain ⟨hi, rfl⟩ := List.getElem?_eq_some_iff.1 hx
        constructor
        · intro hh
          have := nodup_at h3 hi hj' hh
          subst this
          rw [List.getElem?_eq_getElem hj] at hxe
          rw [Option.some.inj hxe]
        · intro hh
          have := born_of h4 hxe (List.getElem?_eq_getElem hj) hh
          subst this
          rfl
      have e1 : decide (x.1 = L[j].1) = (e.born == es.toList[j].born) := by
        rw [Bool.eq_iff_iff, decide_eq_true_iff, beq_iff_eq]
        exact hiff
      rw [e1]
      generalize (e.born == es.toList[j].born) = y
      cases seen.contains e.born <;> cases y <;> rfl
    · unfold World.rangeLeft
      rw [hb', hr2, h1, h6]
      exact left_shrinks es seen _ he
    · rcases hal with rfl | rfl
      · exact fr_setBlock' hr1 _
      · exact (Fr.refl (One r) w).drew.trans (fr_setBlock' hr1 _) fun _ _ h => h
    · rw [← hkv.1, ← hkv.2]
      exact run_entry_at _ r m since seen es clock _ hset.1 hb' hem.1 hnd

omit [DecidableEq α] in
/-- At a 'range'. -/
theorem wpList_rangeM {P : Program} {ops : Array Oper} {rest : List Oper} {o : Oper} {ac : Act} {Q : Exit → Act → World → Prop} (hg : o.guard = none) (x : Operand) (t : TypeId) (hop : o.op = .range t x)
    {k e : TypeId} (ht : P.underlying t = some (.map k e)) (h : MapIs key val w m L) (hm : ac.eval x = .map (some m))
    (hK : ∀ w', MapRg key val w' m w.heap.size L (fun _ => true) → Fr Nob w w' → wpList P ops Q rest (ac.put o.dst (.pointer (some ⟨w.heap.size, 0, none⟩))) w') : wpList P ops Q (o :: rest) ac w :=
  wpList_plain hg fun _ hK' => by
    obtain ⟨w', hr, h1, h2⟩ := h.range ht
    unfold Oper.wp
    simp [execOp, hop, hm, hr, Result.andThen]
    exact hK' _ _ (hK w' h1 h2)

/-- At a 'next': two goals: nothing is left; one comes. -/
theorem wpList_nextM {P : Program} {ops : Array Oper} {rest : List Oper} {o : Oper} {ac : Act} {Q : Exit → Act → World → Prop} (hg : o.guard = none) (it : Operand) (hop : o.op = .next it false)
    (h : MapRg key val w m r L left) (hit : ac.eval it = .pointer (some ⟨r, 0, none⟩))
    (hDone : Hid (∀ x, x ∈ L → left x.1 = false) → wpList P ops Q rest (ac.put o.dst (.tuple #[.bool false])) w)
    (hMore : ∀ a b w', Hid ((a, b) ∈ L) → Hid (left a = true) → Hid (MapRg key val w' m r L (fun c => left c && !decide (c = a))) → Hid (w'.rangeLeft m r < w.rangeLeft m r) → Hid (Fr (One r) w w') → (Instr.entry (.pointer (some ⟨r, 0, none⟩))).run P w' = .ok (.tuple #[key a, val b]) w' →
      wpList P ops Q rest (ac.put o.dst (.tuple #[.bool true, key a, val b])) w') : wpList P ops Q (o :: rest) ac w :=
  wpList_plain hg fun _ hK' => by
    unfold Oper.wp
    rcases h.next (P := P) o.type with ⟨h0, hr⟩ | ⟨x, w', h1, h2, hr, h3, h4, h5, h6⟩
    · simp [execOp, hop, hit, hr, Result.andThen]
      exact hK' _ _ (hDone h0)
    · simp [execOp, hop, hit, hr, Result.andThen]
      exact hK' _ _ (hMore x.1 x.2 w' h1 h2 h3 h4 h5 h6)

end
end Go.Proofs.Ytpdljgjofebgpaa
