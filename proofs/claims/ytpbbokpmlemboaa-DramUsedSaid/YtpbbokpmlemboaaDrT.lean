/-
  dram: the map that a table is, plain.
-/
import Derived.Test.YtpbbokpmlemboaaTabI
namespace Go.Proofs.Ytpbbokpmlemboaa.Tb
theorem setK_m (S : KT) (k : ByteArray) (v : Int) : (setK S k v).m = if k ∈ keysM S.m then updP S.m k v else S.m ++ [(k, v)] := by
  unfold setK
  rw [moveK_m]
  split
  · rfl
  · rw [growK_m]
theorem delK_m (S : KT) (k : ByteArray) : (delK S k).m = if k ∈ keysM S.m then delP S.m k else S.m := by
  unfold delK
  rw [moveK_m]
  split
  · rfl
  · rw [moveK_m]
theorem setK_len (S : KT) (k : ByteArray) (v : Int) : (setK S k v).m.length ≤ S.m.length + 1 := by
  rw [setK_m]
  split
  · unfold updP; rw [List.length_map]; omega
  · rw [List.length_append]; exact Nat.le_refl _
theorem delK_len (S : KT) (k : ByteArray) : (delK S k).m.length ≤ S.m.length := by
  rw [delK_m]
  split
  · unfold delP; exact List.length_filter_le _ _
  · exact Nat.le_refl _
theorem mem_keys {m : List (ByteArray × Int)} {k : ByteArray} : k ∈ keysM m ↔ (getP m k).isSome = true := by
  rw [Option.isSome_iff_ne_none, Ne, getP_none, Classical.not_not]
theorem getP_cons (x : ByteArray × Int) (m : List (ByteArray × Int)) (k : ByteArray) : getP (x :: m) k = if x.1 = k then some x.2 else getP m k := by
  unfold getP
  rw [List.find?_cons]
  by_cases h : x.1 = k
  · rw [decide_eq_true h, if_pos h]; rfl
  · rw [decide_eq_false h, if_neg h]
theorem getP_app (m l : List (ByteArray × Int)) (k : ByteArray) : getP (m ++ l) k = (getP m k).or (getP l k) := by
  induction m with
  | nil => rfl
  | cons x m ih =>
    rw [List.cons_append, getP_cons, getP_cons, ih]
    split
    · rfl
    · rfl
theorem getP_upd (m : List (ByteArray × Int)) (k : ByteArray) (v : Int) (q : ByteArray) : getP (updP m k v) q = if q = k ∧ k ∈ keysM m then some v else getP m q := by
  induction m with
  | nil => 
    rw [if_neg (fun h => by cases h.2)]
    rfl
  | cons x m ih =>
    have h1 : updP (x :: m) k v = (if x.1 = k then (k, v) else x) :: updP m k v := rfl
    rw [h1, getP_cons, getP_cons, ih]
    have h2 : k ∈ keysM (x :: m) ↔ x.1 = k ∨ k ∈ keysM m := by
      show k ∈ x.1 :: keysM m ↔ _
      rw [List.mem_cons]
      exact or_congr_left ⟨Eq.symm, Eq.symm⟩
    by_cases hx : x.1 = k
    · rw [if_pos hx]
      show (if k = q then some v else _) = _
      by_cases hq : k = q
      · rw [if_pos hq, if_pos ⟨hq.symm, h2.2 (.inl hx)⟩]
      · rw [if_neg hq, if_neg (fun h => hq h.1.symm), if_neg (fun h => hq h.1.symm), if_neg (fun h => hq (hx.symm.trans h))]
    · rw [if_neg hx]
      by_cases hq : x.1 = q
      · rw [if_pos hq, if_pos hq, if_neg]
        rintro ⟨h3, _⟩
        exact hx (hq.trans h3)
      · rw [if_neg hq, if_neg hq]
        by_cases h3 : q = k ∧ k ∈ keysM m
        · rw [if_pos h3, if_pos ⟨h3.1, h2.2 (.inr h3.2)⟩]
        · rw [if_neg h3, if_neg]
          rintro ⟨h4, h5⟩
          rcases h2.1 h5 with h5 | h5
          · exact hx h5
          · exact h3 ⟨h4, h5⟩
theorem getP_del (m : List (ByteArray × Int)) (k : ByteArray) (q : ByteArray) : getP (delP m k) q = if q = k then none else getP m q := by
  induction m with
  | nil => split <;> rfl
  | cons x m ih =>
    have h1 : delP (x :: m) k = if x.1 = k then delP m k else x :: delP m k := by
      unfold delP
      rw [List.filter_cons]
      by_cases h : x.1 = k
      · rw [if_neg (by simp [h]), if_pos h]
      · rw [if_pos (by simp [h]), if_neg h]
    rw [h1, getP_cons]
    by_cases hx : x.1 = k
    · rw [if_pos hx, ih]
      by_cases hq : q = k
      · rw [if_pos hq, if_pos hq]
      · rw [if_neg hq, if_neg hq, if_neg (fun h => hq (h.symm.trans hx))]
    · rw [if_neg hx, getP_cons, ih]
      by_cases hq : q = k
      · rw [if_pos hq, if_pos hq, if_neg (fun h => hx (h.trans hq))]
      · rw [if_neg hq, if_neg hq]
/-- What Set makes of the map. -/
theorem getP_set (S : KT) (k : ByteArray) (v : Int) (q : ByteArray) : getP (setK S k v).m q = if q = k then some v else getP S.m q := by
  rw [setK_m]
  by_cases hk : k ∈ keysM S.m
  · rw [if_pos hk, getP_upd]
    by_cases hq : q = k
    · rw [if_pos ⟨hq, hk⟩, if_pos hq]
    · rw [if_neg (fun h => hq h.1), if_neg hq]
  · rw [if_neg hk, getP_app, getP_cons]
    by_cases hq : q = k
    · rw [if_pos hq.symm, if_pos hq, hq, getP_none.2 hk]
      rfl
    · rw [if_neg (fun h => hq h.symm), if_neg hq]
      cases getP S.m q <;> rfl
theorem getP_delK (S : KT) (k : ByteArray) (q : ByteArray) : getP (delK S k).m q = if q = k then none else getP S.m q := by
  rw [delK_m]
  by_cases hk : k ∈ keysM S.m
  · rw [if_pos hk, getP_del]
  · rw [if_neg hk]
    by_cases hq : q = k
    · rw [if_pos hq, hq, getP_none.2 hk]
    · rw [if_neg hq]
theorem set_keys (S : KT) (k : ByteArray) (v : Int) (q : ByteArray) : q ∈ keysM (setK S k v).m ↔ q = k ∨ q ∈ keysM S.m := by
  rw [mem_keys, mem_keys, getP_set]
  by_cases hq : q = k
  · rw [if_pos hq]; simp [hq]
  · rw [if_neg hq]; simp [hq]
theorem del_keys (S : KT) (k : ByteArray) (q : ByteArray) : q ∈ keysM (delK S k).m ↔ q ≠ k ∧ q ∈ keysM S.m := by
  rw [mem_keys, mem_keys, getP_delK]
  by_cases hq : q = k
  · rw [if_pos hq]; simp [hq]
  · rw [if_neg hq]; simp [hq]
theorem set_len_old {S : KT} {k : ByteArray} {v : Int} (h : k ∈ keysM S.m) : (setK S k v).m.length = S.m.length := by
  rw [setK_m, if_pos h]
  exact List.length_map ..
theorem del_len {S : KT} (ok : S.Ok) {k : ByteArray} (h : k ∈ keysM S.m) : (delK S k).m.length + 1 = S.m.length := by
  rw [delK_m, if_pos h]
  have h1 : (keysM (delP S.m k)).length + 1 = (keysM S.m).length := by
    rw [delP_keys]
    have nd := ok.nd
    obtain ⟨a, b, hab⟩ := List.append_of_mem h
    rw [hab] at nd ⊢
    obtain ⟨_, h2, h3⟩ := List.nodup_append.1 nd
    have h4 := (List.nodup_cons.1 h2).1
    have h5 : k ∉ a := fun h => h3 k h k (List.mem_cons_self ..) rfl
    have hs : ∀ l : List ByteArray, k ∉ l → dropK k l = l := fun l hl => by
      unfold dropK
      rw [List.filter_eq_self]
      exact fun x hx => decide_eq_true fun e => hl (e ▸ hx)
    have h6 : dropK k (a ++ k :: b) = dropK k a ++ dropK k b := by
      unfold dropK
      rw [List.filter_append, List.filter_cons, if_neg (by simp)]
    rw [h6, hs a h5, hs b h4, List.length_append, List.length_append, List.length_cons]
    omega
  rw [keysM_len, keysM_len] at h1
  exact h1
end Go.Proofs.Ytpbbokpmlemboaa.Tb
