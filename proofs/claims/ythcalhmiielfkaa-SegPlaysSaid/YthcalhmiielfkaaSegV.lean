/-
  The reference's Seg: Remove; Add of a number that is there.
-/
import Derived.Test.YthcalhmiielfkaaSegU
namespace Go.Proofs.Ythcalhmiielfkaa
open Go.RowKit

theorem radd_no {w : World} {q : Nat} {K : Nat → Prop} {R : Nat → List Nd} (s : RAt w q K R) (hn : rLen R ≤ 10000) (x : Int) (hx : rHas R x = true) :
    Calls Try.prog 16 #[.pointer (some ⟨q, 0, none⟩), .int .i64 x] w fun e w' => e = .returned (.bool false) ∧ RTo w q K w' R := by
  have s0 := Lib.hid s
  clear s
  go_enter Try.func16, Try.ntmps16
  go_wp2_with fail
  refine (has_eq s0.out (by omega) x).mono ?_
  rintro e w1 ⟨rfl, f1⟩
  rw [hx]
  have F1 := Lib.hid f1
  clear f1
  go_wp2_with fail
  go_ret
  exact ⟨rfl, K, s0.out.keep F1.out fun _ _ h => h, F1.out.nob, fun _ h => .inl h⟩

def cut (l : List Nd) (x : Int) : List Nd := l.filter fun y => decide (y.1 ≠ x)
theorem cut_take {l : List Nd} {x : Int} {j : Nat} (hj : j < l.length) : cut (l.take (j + 1)) x = cut (l.take j) x ++ (if (l.getD j (0, false)).1 ≠ x then [l.getD j (0, false)] else []) := by
  unfold cut
  rw [List.take_add_one, List.getElem?_eq_getElem hj, List.filter_append, List.getD_eq_getElem?_getD, List.getElem?_eq_getElem hj]
  by_cases e : l[j].1 = x
  · simp [e]
  · simp [e]

theorem run_node_at {w : World} {base : Nat} {g cap : Nat} {l : List Nd} (h : w.ownsRow base 59 2 (.slice (some ⟨g, 0, none⟩) l.length cap) l.length (nodesV l)) {j : Nat} (hj : j < l.length) {w' : World} (hw : w'.heap[g]? = w.heap[g]?) :
    (loadVar 59 ⟨g, j * 2, none⟩).run Try.prog w' = .ok (.agg #[.int .i64 (l.getD j (0, false)).1, .bool (l.getD j (0, false)).2]) w' := by
  rcases h.2 with ⟨h, _⟩ | ⟨g', cap', cur, he, h0, h1, h2, h3, h4, h5⟩
  · simp at h
  · simp only [Value.slice.injEq, Option.some.injEq, Addr.mk.injEq] at he
    obtain ⟨⟨rfl, _⟩, _, rfl⟩ := he
    obtain ⟨n1, n2⟩ := nodesV_at l j hj
    refine run_loadVar_mid w' g (j * 2) 2 59 59 cur #[.int .i64 (l.getD j (0, false)).1, .bool (l.getD j (0, false)).2] (0, 0) _ (hw.trans h1) Try.underlying59 rfl (by kernel_rfl) rfl fun i hi => ?_
    have hc : ∀ i, i < l.length * 2 → cur[i]? = (nodesV l)[i]? := fun i hi => by
      rw [← h5, List.getElem?_take, if_pos hi]
      simp
    match i with
    | 0 => rw [Nat.add_zero, hc _ (by omega), n1]; rfl
    | 1 => rw [hc _ (by omega), n2]; rfl
    | i + 2 => omega

end Go.Proofs.Ythcalhmiielfkaa
