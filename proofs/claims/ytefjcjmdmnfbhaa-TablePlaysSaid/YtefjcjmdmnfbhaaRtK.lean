/-
  The reference's table: the plain side of Sorted: a key put in its place.
-/
import Derived.Test.YtefjcjmdmnfbhaaRtI
namespace Go.Proofs.Ytefjcjmdmnfbhaa
open Go.RowKit

theorem bytesLess_iff : ∀ (x y : List UInt8), Op.bytesLess x y = true ↔ x < y
  | [], [] => by simp [Op.bytesLess]
  | [], b :: y => by simp [Op.bytesLess]
  | a :: x, [] => by simp [Op.bytesLess]
  | a :: x, b :: y => by
    have ih := bytesLess_iff x y
    rw [List.cons_lt_cons_iff]
    unfold Op.bytesLess
    by_cases hab : a < b
    · simp [hab]
    · by_cases hba : a = b
      · subst hba
        simp [ih]
      · simp [hab, hba]
theorem less_le {a b : ByteArray} (h : Op.bytesLess a.toList b.toList = true) : leK a b := by
  rw [bytesLess_iff, ByteArray.toList_eq, ByteArray.toList_eq] at h
  exact List.le_of_lt h
theorem noless_le {a b : ByteArray} (h : Op.bytesLess a.toList b.toList = false) : leK b a := by
  have h2 : ¬ a.toList < b.toList := fun h3 => by rw [(bytesLess_iff _ _).2 h3] at h; cases h
  rw [ByteArray.toList_eq, ByteArray.toList_eq] at h2
  exact List.not_lt.1 h2
theorem leK_trans {a b c : ByteArray} (h1 : leK a b) (h2 : leK b c) : leK a c := List.le_trans h1 h2

def insAt (L : List ByteArray) (p : Nat) (x : ByteArray) : List ByteArray := L.take p ++ [x] ++ L.drop p
theorem insAt_perm (L : List ByteArray) (p : Nat) (x : ByteArray) : (insAt L p x).Perm (L ++ [x]) := by
  unfold insAt
  have h : (L.take p ++ [x] ++ L.drop p).Perm (x :: (L.take p ++ L.drop p)) := by
    rw [List.append_assoc]
    exact List.perm_middle
  rw [List.take_append_drop] at h
  exact h.trans (List.perm_append_singleton x L).symm
theorem insAt_sorted {L : List ByteArray} {p : Nat} {x : ByteArray} (hs : L.Pairwise leK) (h1 : ∀ j y, j < p → L[j]? = some y → Op.bytesLess y.toList x.toList = true) (h2 : ∀ y, L[p]? = some y → Op.bytesLess y.toList x.toList = false) : (insAt L p x).Pairwise leK := by
  have hd : ∀ y ∈ L.drop p, leK x y := by
    intro y hy
    cases hdp : L.drop p with
    | nil => rw [hdp] at hy; cases hy
    | cons z r =>
      have hz : L[p]? = some z := by
        have := congrArg (fun l => l[0]?) hdp
        simpa [List.getElem?_drop] using this
      have hxz := noless_le (h2 z hz)
      have hsd : (L.drop p).Pairwise leK := hs.sublist (List.drop_sublist p L)
      rw [hdp] at hy hsd
      rcases List.mem_cons.1 hy with rfl | hy
      · exact hxz
      · exact leK_trans hxz ((List.pairwise_cons.1 hsd).1 y hy)
  have ht : ∀ y ∈ L.take p, leK y x := by
    intro y hy
    obtain ⟨j, hj, e⟩ := List.getElem_of_mem hy
    rw [List.getElem_take] at e
    have hjp : j < p := by rw [List.length_take] at hj; omega
    exact less_le (h1 j y hjp (by rw [List.getElem?_eq_getElem (by rw [List.length_take] at hj; omega), e]))
  unfold insAt
  rw [List.append_assoc, List.pairwise_append]
  refine ⟨hs.sublist (List.take_sublist p L), ?_, ?_⟩
  · rw [List.singleton_append, List.pairwise_cons]
    exact ⟨hd, hs.sublist (List.drop_sublist p L)⟩
  · intro a ha b hb
    rcases List.mem_append.1 hb with hb | hb
    · rw [List.mem_singleton.1 hb]
      exact ht a ha
    · exact leK_trans (ht a ha) (hd b hb)
end Go.Proofs.Ytefjcjmdmnfbhaa
