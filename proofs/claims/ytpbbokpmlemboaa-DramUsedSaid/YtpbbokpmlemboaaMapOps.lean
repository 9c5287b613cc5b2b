/-
  The operations on the maps of Maps.lean: look up, store, delete, count, make; and the walk's steps for them.
-/
import Derived.Test.YtpbbokpmlemboaaMaps
import Derived.Maps.OwnSet
namespace Go.Proofs.Ytpbbokpmlemboaa
open Go.RowKit ChangeMaps

section
variable {α β : Type} [DecidableEq α] {d : TypeDesc} {key : α → Value} {val : β → Value}

theorem fr_setBlock {w : World} {r : Nat} {es : Array MapEntry} {clock : Nat} (h : w.heap[r]? = some (.map es clock)) (o : Obj) : Fr (One r) w (setBlock w r o) :=
  ⟨rfl, rfl, rfl, by simp [setBlock], fun i _ hi => heap_setBlock_other h _ (fun e => hi e)⟩

omit [DecidableEq α] in
theorem at_born {es : List MapEntry} {L : List (α × β)} (h : es.map (fun e => (e.key, e.val)) = L.map (fun x => (key x.1, val x.2))) {j : Nat} {x : α × β} (hx : L[j]? = some x) : ∃ e, es[j]? = some e ∧ e.key = key x.1 ∧ e.val = val x.2 := by
  have h1 : (es.map (fun e => (e.key, e.val)))[j]? = some (key x.1, val x.2) := by
    rw [h, List.getElem?_map, hx]
    rfl
  rw [List.getElem?_map] at h1
  cases hes : es[j]? with
  | none => rw [hes] at h1; cases h1
  | some e =>
    rw [hes] at h1
    simp only [Option.map_some, Option.some.injEq, Prod.mk.injEq] at h1
    exact ⟨e, rfl, h1.1, h1.2⟩

omit [DecidableEq α] in
theorem nodup_at {L : List (α × β)} (h : (keysM L).Nodup) {i j : Nat} (hi : i < L.length) (hj : j < L.length) (he : L[i].1 = L[j].1) : i = j := by
  have := List.getElem_inj (xs := keysM L) (i := i) (j := j) (h₀ := by simpa [keysM] using hi) (h₁ := by simpa [keysM] using hj) h
  exact this.1 (by simpa [keysM] using he)

theorem setM_some {L : List (α × β)} (h : (keysM L).Nodup) {j : Nat} (hj : j < L.length) {a : α} {u v : β} (he : L[j] = (a, u)) : setM L a v = L.set j (a, v) := by
  have hs : (getM L a).isSome = true := getM_isSome.2 (List.mem_map.2 ⟨L[j], List.getElem_mem hj, by rw [he]⟩)
  unfold setM
  rw [if_pos hs]
  apply List.ext_getElem (by simp)
  intro i h1 h2
  have hi : i < L.length := by simpa using h1
  rw [List.getElem_map, List.getElem_set]
  by_cases e : j = i
  · subst e
    rw [if_pos rfl, he, if_pos rfl]
  · rw [if_neg e, if_neg fun e' => e (nodup_at h hj hi (by rw [he, e']))]

theorem delM_some {L : List (α × β)} (h : (keysM L).Nodup) {j : Nat} (hj : j < L.length) {a : α} {u : β} (he : L[j] = (a, u)) : delM L a = L.eraseIdx j := by
  induction L generalizing j with
  | nil => simp at hj
  | cons x L ih =>
    have hn : x.1 ∉ keysM L ∧ (keysM L).Nodup := by
      have : keysM (x :: L) = x.1 :: keysM L := rfl
      rw [this, List.nodup_cons] at h
      exact h
    cases j with
    | zero =>
      have hx : x = (a, u) := by simpa using he
      subst hx
      have : ∀ y, y ∈ L → y.1 ≠ a := fun y hy e => hn.1 (List.mem_map.2 ⟨y, hy, e⟩)
      have h2 : delM L a = L := by
        unfold delM
        rw [List.filter_eq_self]
        intro y hy
        simpa using this y hy
      rw [List.eraseIdx_cons_zero]
      refine Eq.trans ?_ h2
      unfold delM
      rw [List.filter_cons]
      simp
    | succ j =>
      rw [List.eraseIdx_cons_succ]
      have hj' : j < L.length := by simpa using hj
      have he' : L[j] = (a, u) := by simpa using he
      have hxa : x.1 ≠ a := fun e => hn.1 (List.mem_map.2 ⟨L[j], List.getElem_mem hj', by rw [he', e]⟩)
      have := ih hn.2 hj' he'
      rw [← this]
      unfold delM
      rw [List.filter_cons, if_pos (by simpa using hxa)]

theorem delM_none {L : List (α × β)} {a : α} (h : getM L a = none) : delM L a = L := by
  unfold delM
  rw [List.filter_eq_self]
  intro y hy
  simpa using getM_none.1 h y hy

theorem pairwise_modify {es : List MapEntry} (h : es.Pairwise (fun a b => a.born < b.born)) (j : Nat) (f : MapEntry → MapEntry) (hf : ∀ e, (f e).born = e.born) : (es.modify j f).Pairwise (fun a b => a.born < b.born) := by
  induction es generalizing j with
  | nil => simp
  | cons e es ih =>
    rw [List.pairwise_cons] at h
    cases j with
    | zero =>
      rw [List.modify_zero_cons, List.pairwise_cons]
      exact ⟨fun b hb => by rw [hf]; exact h.1 b hb, h.2⟩
    | succ j =>
      rw [List.modify_succ_cons, List.pairwise_cons]
      refine ⟨fun b hb => ?_, ih h.2 j⟩
      obtain ⟨i, hi, rfl⟩ := List.getElem_of_mem hb
      rw [List.getElem_modify]
      have hi' : i < es.length := by simpa using hi
      split
      · rw [hf]; exact h.1 _ (List.getElem_mem hi')
      · exact h.1 _ (List.getElem_mem hi')

theorem run_updateM {P : Program} {w : World} (K : KeyOf d key) {t k e : TypeId} (ht : P.underlying t = some (.map k e)) (hk : P.underlying k = some d) {r : Nat} {L : List (α × β)} (h : MapIs key val w r L) (a : α) (v : β) :
    ∃ w', (Instr.mapUpdate t (.map (some r)) (key a) (val v)).run P w = .ok () w' ∧ MapIs key val w' r (setM L a v) ∧ Fr (One r) w w' := by
  have h0 := h
  obtain ⟨es, clock, h1, h2, h3, h4, h5⟩ := h
  cases hn : getM L a with
  | none =>
    have hf := findKey_none (w := w) K hk h2 hn
    refine ⟨setBlock w r (.map (es.push { key := key a, val := val v, born := clock }) (clock + 1)), ?_, ⟨_, _, heap_setBlock_same h1 _, ?_, nodup_setM h3 _ _, ?_, ?_⟩, fr_setBlock h1 _⟩
    · unfold Instr.mapUpdate
      simp [run_underlying ht, run_getObj_map w r es clock h1, K.check P w k _ a hk, hf, MapKept.run_setObj_map _ h1, setBlock]
    · rw [show setM L a v = L ++ [(a, v)] by unfold setM; rw [hn]; rfl]
      simp [h2]
    · rw [Array.toList_push, List.pairwise_append]
      refine ⟨h4, by simp, fun x hx y hy => ?_⟩
      have : y = { key := key a, val := val v, born := clock } := by simpa using hy
      rw [this]
      exact h5 x hx
    · intro x hx
      rw [Array.toList_push, List.mem_append] at hx
      rcases hx with hx | hx
      · exact Nat.lt_succ_of_lt (h5 x hx)
      · have : x = { key := key a, val := val v, born := clock } := by simpa using hx
        rw [this]
        exact Nat.lt_succ_self _
  | some u =>
    obtain ⟨j, hj, hjv, _, hf⟩ := findKey_some (w := w) K hk h2 hn
    obtain ⟨e0, he0, hek, hev⟩ := at_born (key := key) h2 (j := j) (x := (a, u)) (by rw [List.getElem?_eq_getElem hj, hjv])
    have hes : es[j]? = some e0 := by simpa using he0
    refine ⟨setBlock w r (.map (es.modify j fun e => { e with key := key a, val := val v }) clock), ?_, ⟨_, _, heap_setBlock_same h1 _, ?_, nodup_setM h3 _ _, ?_, ?_⟩, fr_setBlock h1 _⟩
    · unfold Instr.mapUpdate
      simp [run_underlying ht, run_getObj_map w r es clock h1, K.check P w k _ a hk, hf, hes, hek, Instr.keyThatStays, K.bits, MapKept.run_setObj_map _ h1, setBlock]
    · rw [setM_some h3 hj hjv]
      apply List.ext_getElem?
      intro i
      rw [Array.toList_modify, List.getElem?_map, List.getElem?_modify, List.getElem?_map, List.getElem?_set]
      have h6 : (es.toList.map fun e => (e.key, e.val))[i]? = (L.map fun x => (key x.1, val x.2))[i]? := by rw [h2]
      rw [List.getElem?_map, List.getElem?_map] at h6
      by_cases e : j = i
      · subst e
        simp [hes, hj]
      · simp only [e, if_false]
        simpa using h6
    · rw [Array.toList_modify]
      exact pairwise_modify h4 j _ fun _ => rfl
    · intro x hx
      rw [Array.toList_modify] at hx
      obtain ⟨i, hi, rfl⟩ := List.getElem_of_mem hx
      rw [List.getElem_modify]
      have hi' : i < es.toList.length := by simpa using hi
      split
      · exact h5 es.toList[i] (List.getElem_mem hi')
      · exact h5 es.toList[i] (List.getElem_mem hi')

theorem run_deleteM {P : Program} {w : World} (K : KeyOf d key) {t k e : TypeId} (ht : P.underlying t = some (.map k e)) (hk : P.underlying k = some d) {r : Nat} {L : List (α × β)} (h : MapIs key val w r L) (a : α) (ty : TypeId) :
    ∃ w', (Builtin.delete_ #[t, k] ty #[.map (some r), key a]).run P w = .ok (.tuple #[]) w' ∧ MapIs key val w' r (delM L a) ∧ Fr (One r) w w' := by
  obtain ⟨es, clock, h1, h2, h3, h4, h5⟩ := h
  cases hn : getM L a with
  | none =>
    have hf := findKey_none (w := w) K hk h2 hn
    refine ⟨setBlock w r (.map es clock), ?_, ⟨_, _, heap_setBlock_same h1 _, ?_, nodup_delM h3 _, h4, h5⟩, fr_setBlock h1 _⟩
    · simp [Builtin.delete_, run_underlying ht, run_getObj_map w r es clock h1, K.check P w k _ a hk, hf, MapKept.run_setObj_map _ h1, setBlock]
    · rw [delM_none hn]; exact h2
  | some u =>
    obtain ⟨j, hj, hjv, _, hf⟩ := findKey_some (w := w) K hk h2 hn
    have hlen : es.toList.length = L.length := by simpa using congrArg List.length h2
    have hjs : j < es.size := by rw [← Array.length_toList, hlen]; exact hj
    have hsub : (es.eraseIdxIfInBounds j).toList = es.toList.eraseIdx j := by
      unfold Array.eraseIdxIfInBounds
      rw [dif_pos hjs]
      simp
    refine ⟨setBlock w r (.map (es.eraseIdxIfInBounds j) clock), ?_, ⟨_, _, heap_setBlock_same h1 _, ?_, nodup_delM h3 _, ?_, ?_⟩, fr_setBlock h1 _⟩
    · simp [Builtin.delete_, run_underlying ht, run_getObj_map w r es clock h1, K.check P w k _ a hk, hf, MapKept.run_setObj_map _ h1, setBlock]
    · rw [delM_some h3 hj hjv, hsub, List.eraseIdx_eq_take_drop_succ, List.eraseIdx_eq_take_drop_succ, List.map_append, List.map_append, List.map_take, List.map_take, List.map_drop, List.map_drop, h2]
    · rw [hsub]; exact h4.sublist (List.eraseIdx_sublist _ _)
    · intro x hx
      rw [hsub] at hx
      exact h5 x ((List.eraseIdx_sublist _ _).subset hx)

omit [DecidableEq α] in
theorem run_lenM {P : Program} {w : World} {t k e : TypeId} (ht : P.underlying t = some (.map k e)) {r : Nat} {L : List (α × β)} (h : MapIs key val w r L) (ty : TypeId) :
    (Builtin.len_ #[t] ty #[.map (some r)]).run P w = .ok (.int .i64 L.length) w := by
  obtain ⟨es, clock, h1, h2, _⟩ := h
  have hlen : es.size = L.length := by simpa using congrArg List.length h2
  simp [Builtin.len_, run_underlying ht, run_getObj_map w r es clock h1, goInt, hlen]

/-- At a look-up: '(at_lookup; refine wpList_lookupM rfl _ _ T rfl K ht hk hz hm rfl a rfl ?_)'. -/
theorem wpList_lookupM {P : Program} {ops : Array Oper} {rest : List Oper} {o : Oper} {ac : Act} {w : World} {Q : Exit → Act → World → Prop} (hg : o.guard = none) (m x : Operand) (t : TypeId) {ok : Bool} (hop : o.op = .lookup t m x ok)
    (K : KeyOf d key) {k e : TypeId} (ht : P.underlying t = some (.map k e)) (hk : P.underlying k = some d) {z : β} (hz : (zeroValue e).run P w = .ok (val z) w) {r : Nat} {L : List (α × β)} (h : MapIs key val w r L) (hm : ac.eval m = .map (some r)) (a : α) (hx : ac.eval x = key a)
    (hK : wpList P ops Q rest (ac.put o.dst (if ok then .tuple #[val ((getM L a).getD z), .bool (getM L a).isSome] else val ((getM L a).getD z))) w) : wpList P ops Q (o :: rest) ac w :=
  wpList_plain hg fun _ hK' => by
    unfold Oper.wp
    simp [execOp, hop, hm, hx, run_lookupM K ht hk hz h a ok]
    exact hK' _ _ hK

/-- At a store: '.. ?_; intro w2 m2 f2'. -/
theorem wpList_updateM {P : Program} {ops : Array Oper} {rest : List Oper} {o : Oper} {ac : Act} {w : World} {Q : Exit → Act → World → Prop} (hg : o.guard = none) (m x y : Operand) (t : TypeId) (hop : o.op = .mapUpdate t m x y)
    (K : KeyOf d key) {k e : TypeId} (ht : P.underlying t = some (.map k e)) (hk : P.underlying k = some d) {r : Nat} {L : List (α × β)} (h : MapIs key val w r L) (hm : ac.eval m = .map (some r)) (a : α) (hx : ac.eval x = key a) (v : β) (hy : ac.eval y = val v)
    (hK : ∀ w', MapIs key val w' r (setM L a v) → Fr (One r) w w' → wpList P ops Q rest (ac.put o.dst undef) w') : wpList P ops Q (o :: rest) ac w :=
  wpList_plain hg fun _ hK' => by
    obtain ⟨w', hr, h1, h2⟩ := run_updateM K ht hk h a v
    unfold Oper.wp
    simp [execOp, hop, hm, hx, hy, hr, Result.andThen]
    exact hK' _ _ (hK w' h1 h2)

/-- At a 'delete': '.. ?_; intro w2 m2 f2'. -/
theorem wpList_deleteM {P : Program} {ops : Array Oper} {rest : List Oper} {o : Oper} {ac : Act} {w : World} {Q : Exit → Act → World → Prop} (hg : o.guard = none) (m x : Operand) (t k : TypeId) (hop : o.op = .call { callee := .builtin .delete, args := #[m, x], argTypes := #[t, k] })
    (K : KeyOf d key) {e : TypeId} (ht : P.underlying t = some (.map k e)) (hk : P.underlying k = some d) {r : Nat} {L : List (α × β)} (h : MapIs key val w r L) (hm : ac.eval m = .map (some r)) (a : α) (hx : ac.eval x = key a)
    (hK : ∀ w', MapIs key val w' r (delM L a) → Fr (One r) w w' → wpList P ops Q rest (ac.put o.dst (.tuple #[])) w') : wpList P ops Q (o :: rest) ac w :=
  wpList_plain hg fun _ hK' => by
    obtain ⟨w', hr, h1, h2⟩ := run_deleteM K ht hk h a o.type
    unfold Oper.wp
    simp [execOp, hop, resolve, invoke, builtin, hm, hx, hr, Result.andThen]
    exact hK' _ _ (hK w' h1 h2)

omit [DecidableEq α] in
/-- At 'len' of a map. -/
theorem wpList_lenM {P : Program} {ops : Array Oper} {rest : List Oper} {o : Oper} {ac : Act} {w : World} {Q : Exit → Act → World → Prop} (hg : o.guard = none) (m : Operand) (t : TypeId) (hop : o.op = .call { callee := .builtin .len, args := #[m], argTypes := #[t] })
    {k e : TypeId} (ht : P.underlying t = some (.map k e)) {r : Nat} {L : List (α × β)} (h : MapIs key val w r L) (hm : ac.eval m = .map (some r))
    (hK : wpList P ops Q rest (ac.put o.dst (.int .i64 L.length)) w) : wpList P ops Q (o :: rest) ac w :=
  wpList_plain hg fun _ hK' => by
    unfold Oper.wp
    simp [execOp, hop, resolve, invoke, builtin, hm, run_lenM ht h o.type, Result.andThen]
    exact hK' _ _ hK

end

/-- At a 'make' of a map: '(with_reducible refine wpList_makeM (t := T) rfl rfl ?_)'. -/
theorem wpList_makeM {P : Program} {ops : Array Oper} {rest : List Oper} {o : Oper} {ac : Act} {w : World} {Q : Exit → Act → World → Prop} {t : TypeId} (hg : o.guard = none) (hop : o.op = .makeMap t none)
    (hK : wpList P ops Q rest (ac.put o.dst (.map (some w.heap.size))) (w.alloc (.map #[] 0))) : wpList P ops Q (o :: rest) ac w :=
  wpList_plain hg fun _ hK' => by
    unfold Oper.wp
    simp [execOp, hop, run_makeMap, Result.andThen]
    exact hK' _ _ hK

end Go.Proofs.Ytpbbokpmlemboaa
