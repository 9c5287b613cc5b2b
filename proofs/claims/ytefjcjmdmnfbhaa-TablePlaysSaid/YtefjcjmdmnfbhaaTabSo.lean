/-
  Sorted lists of keys.
-/
import Derived.Test.YtefjcjmdmnfbhaaTabTx
namespace Go.Proofs.Ytefjcjmdmnfbhaa
open Go.RowKit

def leK (x y : ByteArray) : Prop := x.data.toList ≤ y.data.toList
theorem leK_antisymm {x y : ByteArray} (h1 : leK x y) (h2 : leK y x) : x = y := by
  have := List.le_antisymm h1 h2
  obtain ⟨⟨x⟩⟩ := x
  obtain ⟨⟨y⟩⟩ := y
  exact congrArg (fun l => ByteArray.mk ⟨l⟩) this
theorem sortB_sorted (l : List ByteArray) : (sortB l).Pairwise leK := by
  unfold sortB
  rw [List.pairwise_map]
  have := List.pairwise_mergeSort (le := fun x y : List UInt8 => decide (x ≤ y)) (fun a b c h1 h2 => decide_eq_true (List.le_trans (of_decide_eq_true h1) (of_decide_eq_true h2)))
    (fun a b => by
      rcases List.le_total a b with h | h
      · rw [decide_eq_true h]; rfl
      · rw [decide_eq_true h, Bool.or_true]) (l.map fun k => k.data.toList)
  exact this.imp fun h => of_decide_eq_true h
theorem sorted_unique {s l : List ByteArray} (hs : s.Pairwise leK) (hl : l.Pairwise leK) (hp : s.Perm l) : s = l :=
  List.Perm.eq_of_pairwise (le := leK) (fun _ _ _ _ h1 h2 => leK_antisymm h1 h2) hs hl hp
theorem sortB_unique {s l : List ByteArray} (hp : s.Perm l) (hs : s.Pairwise leK) : sortB l = s :=
  sorted_unique (sortB_sorted l) hs ((sortB_perm l).trans hp.symm)
end Go.Proofs.Ytefjcjmdmnfbhaa
