/-
  What acts leave of a map: the last of each key counts (plain).
-/
import Derived.Test.YtefjcjmdmnfbhaaTabM
namespace Go.Proofs.Ytefjcjmdmnfbhaa

def stepT (S : KT) (x : TAct) : KT := if x.op = 1 then delK S x.key else setK S x.key x.v
def actsT (l : List TAct) (k : Nat) : KT := (l.take k).foldl stepT (newK 1)
def keyA (l : List TAct) (i : Nat) : ByteArray := (l.getD i default).key
def resA (l : List TAct) (i : Nat) : Option Int := if (l.getD i default).op = 1 then none else some (l.getD i default).v
def lastUp (l : List TAct) (i : Nat) : Nat → Nat
  | 0 => i
  | d + 1 => if keyA l (i + 1 + d) = keyA l i then i + 1 + d else lastUp l i d

theorem actsT_succ {l : List TAct} {k : Nat} (hk : k < l.length) : actsT l (k + 1) = stepT (actsT l k) (l.getD k default) := by
  unfold actsT
  rw [List.take_add_one, List.getElem?_eq_getElem hk, List.foldl_append, List.getD_eq_getElem?_getD, List.getElem?_eq_getElem hk]
  rfl
theorem getP_step (S : KT) (x : TAct) (q : ByteArray) : getP (stepT S x).m q = if q = x.key then (if x.op = 1 then none else some x.v) else getP S.m q := by
  unfold stepT
  by_cases h : x.op = 1
  · rw [if_pos h, if_pos h, getP_delK]
  · rw [if_neg h, if_neg h, getP_set]
theorem getP_acts {l : List TAct} {k : Nat} (hk : k < l.length) (q : ByteArray) : getP (actsT l (k + 1)).m q = if q = keyA l k then resA l k else getP (actsT l k).m q := by
  rw [actsT_succ hk, getP_step]
  rfl
theorem lastUp_res {l : List TAct} {i : Nat} : ∀ d, i + 1 + d ≤ l.length → getP (actsT l (i + 1 + d)).m (keyA l i) = resA l (lastUp l i d)
  | 0, h => by
    rw [Nat.add_zero, getP_acts (by omega), if_pos rfl]
    rfl
  | d + 1, h => by
    rw [← Nat.add_assoc, getP_acts (by omega)]
    unfold lastUp
    by_cases hk : keyA l (i + 1 + d) = keyA l i
    · rw [if_pos hk.symm, if_pos hk]
    · rw [if_neg (fun e => hk e.symm), if_neg hk]
      exact lastUp_res d (by omega)
theorem lastUp_le (l : List TAct) (i d : Nat) : i ≤ lastUp l i d ∧ lastUp l i d ≤ i + d := by
  induction d with
  | zero => exact ⟨Nat.le_refl _, Nat.le_refl _⟩
  | succ d ih =>
    unfold lastUp
    split <;> omega
theorem lastUp_none {l : List TAct} {i d : Nat} : lastUp l i d = i ↔ ∀ k, i < k → k < i + 1 + d → keyA l k ≠ keyA l i := by
  induction d with
  | zero => exact ⟨fun _ k h1 h2 => by omega, fun _ => rfl⟩
  | succ d ih =>
    unfold lastUp
    by_cases hk : keyA l (i + 1 + d) = keyA l i
    · rw [if_pos hk]
      exact ⟨fun h => by omega, fun h => absurd hk (h _ (by omega) (by omega))⟩
    · rw [if_neg hk, ih]
      constructor
      · intro h k h1 h2
        by_cases he : k = i + 1 + d
        · rw [he]; exact hk
        · exact h k h1 (by omega)
      · exact fun h k h1 h2 => h k h1 (by omega)
def lastA (l : List TAct) (i : Nat) : Nat := lastUp l i (l.length - (i + 1))
def isLast (l : List TAct) (i : Nat) : Prop := lastA l i = i ∧ (l.getD i default).op ≠ 1
instance (l : List TAct) (i : Nat) : Decidable (isLast l i) := inferInstanceAs (Decidable (_ ∧ _))
def lastKeys (l : List TAct) : Nat → List ByteArray
  | 0 => []
  | i + 1 => if isLast l i then lastKeys l i ++ [keyA l i] else lastKeys l i

theorem mem_lastKeys {l : List TAct} {i : Nat} {q : ByteArray} : q ∈ lastKeys l i ↔ ∃ j, j < i ∧ isLast l j ∧ keyA l j = q := by
  induction i with
  | zero =>
    constructor
    · intro h
      cases h
    · rintro ⟨j, h, _⟩
      omega
  | succ i ih =>
    unfold lastKeys
    split
    next hl =>
      rw [List.mem_append, ih, List.mem_singleton]
      constructor
      · rintro (⟨j, h1, h2, h3⟩ | rfl)
        · exact ⟨j, by omega, h2, h3⟩
        · exact ⟨i, by omega, hl, rfl⟩
      · rintro ⟨j, h1, h2, h3⟩
        by_cases hj : j = i
        · subst hj; exact .inr h3.symm
        · exact .inl ⟨j, by omega, h2, h3⟩
    next hl =>
      rw [ih]
      constructor
      · rintro ⟨j, h1, h2, h3⟩
        exact ⟨j, by omega, h2, h3⟩
      · rintro ⟨j, h1, h2, h3⟩
        by_cases hj : j = i
        · subst hj; exact absurd h2 hl
        · exact ⟨j, by omega, h2, h3⟩
theorem nodup_lastKeys {l : List TAct} : ∀ i, i ≤ l.length → (lastKeys l i).Nodup
  | 0, _ => List.nodup_nil
  | i + 1, h => by
    have ih := nodup_lastKeys (l := l) i (by omega)
    unfold lastKeys
    split
    next hl =>
      refine List.nodup_append.2 ⟨ih, List.nodup_cons.2 ⟨by simp, List.nodup_nil⟩, ?_⟩
      intro a ha b hb hab
      rw [List.mem_singleton] at hb
      subst hb hab
      obtain ⟨j, h1, h2, h3⟩ := mem_lastKeys.1 ha
      exact (lastUp_none.1 h2.1) i (by omega) (by omega) h3.symm
    · exact ih
theorem mem_acts {l : List TAct} {q : ByteArray} : ∀ k, k ≤ l.length → q ∈ keysM (actsT l k).m → ∃ j, j < k ∧ keyA l j = q ∧ (l.getD j default).op ≠ 1 ∧ ∀ i, j < i → i < k → keyA l i ≠ q
  | 0, _, h => by cases h
  | k + 1, hk, h => by
    rw [mem_keys, getP_acts (by omega)] at h
    by_cases hq : q = keyA l k
    · rw [if_pos hq] at h
      refine ⟨k, by omega, hq.symm, fun e => ?_, fun i h1 h2 => by omega⟩
      unfold resA at h
      rw [if_pos e] at h
      cases h
    · rw [if_neg hq, ← mem_keys] at h
      obtain ⟨j, h1, h2, h3, h4⟩ := mem_acts k (by omega) h
      refine ⟨j, by omega, h2, h3, fun i h5 h6 => ?_⟩
      by_cases he : i = k
      · rw [he]; exact fun e => hq e.symm
      · exact h4 i h5 (by omega)
theorem nodup_sub_len {l m : List ByteArray} (h : l.Nodup) (hs : ∀ x, x ∈ l → x ∈ m) : l.length ≤ m.length := by
  induction l generalizing m with
  | nil => exact Nat.zero_le _
  | cons a l ih =>
    have hn := List.nodup_cons.1 h
    obtain ⟨p, r, rfl⟩ := List.append_of_mem (hs a (List.mem_cons_self ..))
    have := ih (m := p ++ r) hn.2 (fun x hx => by
      have h1 := hs x (List.mem_cons_of_mem _ hx)
      rw [List.mem_append, List.mem_cons] at h1
      rw [List.mem_append]
      rcases h1 with h1 | rfl | h1
      · exact .inl h1
      · exact absurd hx hn.1
      · exact .inr h1)
    rw [List.length_append] at this ⊢
    rw [List.length_cons, List.length_cons]
    omega
theorem lastKeys_len {l : List TAct} (ok : (actsT l l.length).Ok) : (lastKeys l l.length).length = (actsT l l.length).m.length := by
  rw [← keysM_len]
  apply Nat.le_antisymm
  · refine nodup_sub_len (nodup_lastKeys _ (Nat.le_refl _)) fun q hq => ?_
    obtain ⟨j, h1, h2, h3⟩ := mem_lastKeys.1 hq
    rw [mem_keys, ← h3]
    have := lastUp_res (l := l) (i := j) (l.length - (j + 1)) (by omega)
    rw [show j + 1 + (l.length - (j + 1)) = l.length by omega] at this
    rw [this]
    have h4 : lastUp l j (l.length - (j + 1)) = j := h2.1
    rw [h4]
    unfold resA
    rw [if_neg h2.2]
    rfl
  · refine nodup_sub_len ok.nd fun q hq => ?_
    obtain ⟨j, h1, h2, h3, h4⟩ := mem_acts _ (Nat.le_refl _) hq
    exact mem_lastKeys.2 ⟨j, h1, ⟨lastUp_none.2 fun k h5 h6 => by rw [h2]; exact h4 k h5 (by omega), h3⟩, h2⟩
theorem lastKeys_succ {l : List TAct} {i : Nat} : (lastKeys l (i + 1)).length = (lastKeys l i).length + (if isLast l i then 1 else 0) := by
  show (if isLast l i then lastKeys l i ++ [keyA l i] else lastKeys l i).length = _
  split
  · rw [List.length_append]; rfl
  · rfl
theorem lastKeys_le {l : List TAct} (i : Nat) : (lastKeys l i).length ≤ i := by
  induction i with
  | zero => exact Nat.le_refl _
  | succ i ih =>
    rw [lastKeys_succ]
    split <;> omega
end Go.Proofs.Ytefjcjmdmnfbhaa
