/-
  Maps with keys of one cell (integers, texts), told as the list of their pairs in the order in which they came.
-/
import Derived.Test.YtpbbokpmlemboaaBase
namespace Go.Proofs.Ytpbbokpmlemboaa
open Go.RowKit

/-- What is asked of a key's kind: how two are held against each other; that a key may be one. -/
structure KeyOf {α : Type} [DecidableEq α] (d : TypeDesc) (key : α → Value) : Prop where
  same : ∀ a b, Instr.sameNow d (key a) (key b) = some (decide (a = b))
  bits : ∀ a, Instr.sameBits 10000 (key a) (key a) = true
  check : ∀ (P : Program) (w : World) (t : TypeId) (e : Bool) (a : α), P.underlying t = some d → (Instr.checkKey e 10000 t (key a)).run P w = .ok () w

theorem sameBits_int (n : Nat) (k : IntKind) (a : Int) : Instr.sameBits n (.int k a) (.int k a) = true := by
  cases n <;> simp [Instr.sameBits]
theorem checkKey_int (P : Program) (w : World) (t : TypeId) (e : Bool) (k : IntKind) (a : Int) (ht : P.underlying t = some (.int k)) (n : Nat) : (Instr.checkKey e (n + 1) t (.int k a)).run P w = .ok () w := by
  simp [Instr.checkKey, run_underlying ht]
theorem int_key (k : IntKind) : KeyOf (.int k) (Value.int k) := by
  refine ⟨fun a b => ?_, fun a => ?_, fun P w t e a ht => ?_⟩
  · simp only [Instr.sameNow, if_true]
    congr 1
  · exact sameBits_int _ k a
  · exact checkKey_int P w t e k a ht 9999

section
variable {α β : Type} {key : α → Value} {val : β → Value}
def keysM (L : List (α × β)) : List α := L.map (·.1)

/-- Block r is a map that holds the pairs L, in the order in which they came; each entry's stamp is its own. -/
def MapIs (key : α → Value) (val : β → Value) (w : World) (r : Nat) (L : List (α × β)) : Prop :=
  ∃ es clock, w.heap[r]? = some (.map es clock) ∧ es.toList.map (fun e => (e.key, e.val)) = L.map (fun x => (key x.1, val x.2)) ∧ (keysM L).Nodup ∧
    es.toList.Pairwise (fun a b => a.born < b.born) ∧ ∀ e, e ∈ es.toList → e.born < clock

theorem MapIs.keep {w w' : World} {r : Nat} {L : List (α × β)} {S : Nat → Prop} (h : MapIs key val w r L) (hf : Fr S w w') (hn : ¬ S r) : MapIs key val w' r L := by
  obtain ⟨es, clock, h1, h2⟩ := h
  exact ⟨es, clock, hf.heap h1 hn, h2⟩
theorem MapIs.lt {w : World} {r : Nat} {L : List (α × β)} (h : MapIs key val w r L) : r < w.heap.size := by
  obtain ⟨es, clock, h1, _⟩ := h
  exact lt_of_block h1
theorem MapIs.made (w : World) : MapIs key val (w.alloc (.map #[] 0)) w.heap.size ([] : List (α × β)) :=
  ⟨#[], 0, heap_alloc_new w _, rfl, List.nodup_nil, List.Pairwise.nil, fun _ h => by cases h⟩
theorem MapIs.nodup {w : World} {r : Nat} {L : List (α × β)} (h : MapIs key val w r L) : (keysM L).Nodup := by
  obtain ⟨es, clock, _, _, h3, _⟩ := h
  exact h3

end

section
variable {α β : Type} [DecidableEq α] {d : TypeDesc} {key : α → Value} {val : β → Value}

def getM (L : List (α × β)) (a : α) : Option β := (L.find? fun x => decide (x.1 = a)).map (·.2)
def setM (L : List (α × β)) (a : α) (v : β) : List (α × β) := if (getM L a).isSome then L.map fun x => if x.1 = a then (a, v) else x else L ++ [(a, v)]
def delM (L : List (α × β)) (a : α) : List (α × β) := L.filter fun x => decide (x.1 ≠ a)

theorem getM_nil (a : α) : getM ([] : List (α × β)) a = none := rfl
theorem getM_cons (x : α × β) (L : List (α × β)) (a : α) : getM (x :: L) a = if x.1 = a then some x.2 else getM L a := by
  unfold getM
  rw [List.find?_cons]
  by_cases h : x.1 = a
  · simp [h]
  · simp [h]
theorem getM_append (L M : List (α × β)) (a : α) : getM (L ++ M) a = (getM L a).or (getM M a) := by
  induction L with
  | nil => simp [getM_nil]
  | cons x L ih =>
    rw [List.cons_append, getM_cons, getM_cons, ih]
    split <;> simp
theorem getM_some {L : List (α × β)} {a : α} {v : β} (h : getM L a = some v) : (a, v) ∈ L := by
  unfold getM at h
  cases hf : L.find? fun x => decide (x.1 = a) with
  | none => simp [hf] at h
  | some x =>
    simp [hf] at h
    have h1 := List.mem_of_find?_eq_some hf
    have h2 := List.find?_some hf
    simp at h2
    rw [← h2, ← h]
    exact h1
theorem getM_none {L : List (α × β)} {a : α} : getM L a = none ↔ ∀ x, x ∈ L → x.1 ≠ a := by
  unfold getM
  simp
theorem getM_isSome {L : List (α × β)} {a : α} : (getM L a).isSome = true ↔ a ∈ L.map (·.1) := by
  rw [Option.isSome_iff_ne_none, ne_eq, getM_none]
  simp

theorem getM_setM (L : List (α × β)) (a b : α) (v : β) : getM (setM L a v) b = if b = a then some v else getM L b := by
  unfold setM
  by_cases hs : (getM L a).isSome
  · rw [if_pos hs]
    by_cases hb : b = a
    · subst hb
      rw [if_pos rfl]
      induction L with
      | nil => simp [getM_nil] at hs
      | cons x L ih =>
        rw [List.map_cons, getM_cons]
        by_cases hx : x.1 = b
        · simp [hx]
        · rw [getM_cons, if_neg hx] at hs
          rw [if_neg hx, if_neg hx]
          exact ih hs
    · rw [if_neg hb]
      clear hs
      induction L with
      | nil => rfl
      | cons x L ih =>
        rw [List.map_cons, getM_cons, getM_cons, ih]
        by_cases hx : x.1 = a
        · rw [if_pos hx]
          have : ¬ a = b := fun h => hb h.symm
          rw [if_neg this, if_neg (by rw [hx]; exact this)]
        · rw [if_neg hx]
  · rw [if_neg hs, getM_append, getM_cons, getM_nil]
    by_cases hb : b = a
    · subst hb
      simp at hs
      simp [hs]
    · have : ¬ a = b := fun h => hb h.symm
      simp [hb, this]
theorem getM_delM (L : List (α × β)) (a b : α) : getM (delM L a) b = if b = a then none else getM L b := by
  unfold delM
  induction L with
  | nil => simp [getM_nil]
  | cons x L ih =>
    rw [List.filter_cons]
    by_cases hx : x.1 = a
    · rw [if_neg (by simpa using hx), ih, getM_cons]
      by_cases hb : b = a
      · rw [if_pos hb, if_pos hb]
      · rw [if_neg hb, if_neg hb, if_neg (by rw [hx]; exact fun h => hb h.symm)]
    · rw [if_pos (by simpa using hx), getM_cons, getM_cons, ih]
      by_cases hb : b = a
      · rw [if_pos hb, if_pos hb, if_neg (by rw [hb]; exact hx)]
      · rw [if_neg hb, if_neg hb]

theorem keysM_setM (L : List (α × β)) (a : α) (v : β) : keysM (setM L a v) = if (getM L a).isSome then keysM L else keysM L ++ [a] := by
  unfold setM keysM
  split
  · rw [List.map_map]
    apply List.map_congr_left
    intro x _
    simp only [Function.comp_apply]
    split
    · rename_i h; exact h.symm
    · rfl
  · simp
theorem keysM_delM (L : List (α × β)) (a : α) : keysM (delM L a) = (keysM L).filter fun x => decide (x ≠ a) := by
  unfold delM keysM
  rw [List.filter_map]
  rfl
theorem nodup_setM {L : List (α × β)} (h : (keysM L).Nodup) (a : α) (v : β) : (keysM (setM L a v)).Nodup := by
  rw [keysM_setM]
  split
  · exact h
  · rename_i hs
    rw [List.nodup_append]
    refine ⟨h, by simp, fun x hx y hy => ?_⟩
    have : y = a := by simpa using hy
    subst this
    intro e
    subst e
    exact hs (getM_isSome.2 hx)
theorem nodup_delM {L : List (α × β)} (h : (keysM L).Nodup) (a : α) : (keysM (delM L a)).Nodup := by
  rw [keysM_delM]
  exact h.filter _
theorem length_setM (L : List (α × β)) (a : α) (v : β) : (setM L a v).length = L.length + (if (getM L a).isSome then 0 else 1) := by
  unfold setM
  split <;> simp
theorem mem_setM {L : List (α × β)} {a : α} {v : β} {x : α × β} (h : x ∈ setM L a v) : x = (a, v) ∨ (x ∈ L ∧ x.1 ≠ a) := by
  unfold setM at h
  split at h
  · rw [List.mem_map] at h
    obtain ⟨y, hy, rfl⟩ := h
    by_cases e : y.1 = a
    · rw [if_pos e]; exact .inl rfl
    · rw [if_neg e]; exact .inr ⟨hy, e⟩
  · rename_i hs
    rw [List.mem_append] at h
    rcases h with h | h
    · refine .inr ⟨h, fun e => hs (getM_isSome.2 ?_)⟩
      rw [← e]
      exact List.mem_map.2 ⟨x, h, rfl⟩
    · exact .inl (by simpa using h)

theorem findNow_of (K : KeyOf d key) (a : α) : ∀ (es : List MapEntry) (L : List (α × β)) (i : Nat), es.map (fun e => (e.key, e.val)) = L.map (fun x => (key x.1, val x.2)) →
    Instr.findNow d (key a) es i = some ((L.findIdx? fun x => decide (x.1 = a)).bind fun j => (L[j]?).map fun x => (i + j, val x.2))
  | [], L, i, h => by
    have : L = [] := by
      cases L with
      | nil => rfl
      | cons x L => simp at h
    subst this
    rfl
  | e :: es, L, i, h => by
    cases L with
    | nil => simp at h
    | cons x L =>
      simp only [List.map_cons, List.cons.injEq, Prod.mk.injEq] at h
      obtain ⟨⟨h1, h2⟩, h3⟩ := h
      unfold Instr.findNow
      rw [h1, K.same, List.findIdx?_cons]
      by_cases hx : x.1 = a
      · have : a = x.1 := hx.symm
        simp [hx, h2]
      · have : ¬ a = x.1 := fun e => hx e.symm
        simp only [hx, this, decide_false, Bool.false_eq_true, if_false]
        rw [findNow_of K a es L (i + 1) h3]
        cases hf : L.findIdx? fun x => decide (x.1 = a) with
        | none => simp
        | some j =>
          simp only [Option.map_some, Option.bind_some, List.getElem?_cons_succ]
          congr 1
          cases L[j]? with
          | none => rfl
          | some y => simp; omega

theorem findKey_none {P : Program} {w : World} (K : KeyOf d key) {t : TypeId} (ht : P.underlying t = some d) {es : Array MapEntry} {L : List (α × β)} (h : es.toList.map (fun e => (e.key, e.val)) = L.map (fun x => (key x.1, val x.2))) {a : α} (hn : getM L a = none) :
    (Instr.findKey t (key a) es.toList).run P w = .ok none w := by
  unfold Instr.findKey
  have h1 := findNow_of K a es.toList L 0 h
  have h2 : (L.findIdx? fun x => decide (x.1 = a)) = none := by
    rw [List.findIdx?_eq_none_iff]
    intro x hx
    simpa using getM_none.1 hn x hx
  rw [h2] at h1
  simp [run_underlying ht, h1]

theorem findKey_some {P : Program} {w : World} (K : KeyOf d key) {t : TypeId} (ht : P.underlying t = some d) {es : Array MapEntry} {L : List (α × β)} (h : es.toList.map (fun e => (e.key, e.val)) = L.map (fun x => (key x.1, val x.2))) {a : α} {v : β} (hn : getM L a = some v) :
    ∃ j, ∃ hj : j < L.length, L[j] = (a, v) ∧ (L.findIdx? fun x => decide (x.1 = a)) = some j ∧ (Instr.findKey t (key a) es.toList).run P w = .ok (some (j, val v)) w := by
  have h1 := findNow_of K a es.toList L 0 h
  cases hf : L.findIdx? fun x => decide (x.1 = a) with
  | none =>
    rw [List.findIdx?_eq_none_iff] at hf
    have : getM L a = none := getM_none.2 fun x hx => by simpa using hf x hx
    rw [this] at hn
    cases hn
  | some j =>
    rw [List.findIdx?_eq_some_iff_getElem] at hf
    obtain ⟨hj, h2, h3⟩ := hf
    have hv : L[j].2 = v := by
      unfold getM at hn
      have : L.find? (fun x => decide (x.1 = a)) = some L[j] := by
        rw [List.find?_eq_some_iff_getElem]
        exact ⟨h2, j, hj, rfl, fun k hk => by simpa using h3 k hk⟩
      rw [this] at hn
      simpa using hn
    have ha : L[j].1 = a := by simpa using h2
    refine ⟨j, hj, Prod.ext ha hv, rfl, ?_⟩
    have hf' : (L.findIdx? fun x => decide (x.1 = a)) = some j := by
      rw [List.findIdx?_eq_some_iff_getElem]
      exact ⟨hj, h2, h3⟩
    rw [hf'] at h1
    simp only [Option.bind_some, List.getElem?_eq_getElem hj, Option.map_some, Nat.zero_add, hv] at h1
    unfold Instr.findKey
    simp [run_underlying ht, h1]

theorem run_lookupM {P : Program} {w : World} (K : KeyOf d key) {t k e : TypeId} (ht : P.underlying t = some (.map k e)) (hk : P.underlying k = some d) {z : β} (hz : (zeroValue e).run P w = .ok (val z) w)
    {r : Nat} {L : List (α × β)} (h : MapIs key val w r L) (a : α) (ok : Bool) :
    (Instr.lookup t (.map (some r)) (key a) ok).run P w = .ok (if ok then .tuple #[val ((getM L a).getD z), .bool (getM L a).isSome] else val ((getM L a).getD z)) w := by
  obtain ⟨es, clock, h1, h2, _⟩ := h
  unfold Instr.lookup
  cases hn : getM L a with
  | none =>
    have hf := findKey_none (w := w) K hk h2 hn
    simp [run_underlying ht, run_getObj_map w r es clock h1, K.check P w k _ a hk, hf, hz]
  | some v =>
    obtain ⟨j, _, _, _, hf⟩ := findKey_some (w := w) K hk h2 hn
    simp [run_underlying ht, run_getObj_map w r es clock h1, K.check P w k _ a hk, hf]

end
end Go.Proofs.Ytpbbokpmlemboaa
