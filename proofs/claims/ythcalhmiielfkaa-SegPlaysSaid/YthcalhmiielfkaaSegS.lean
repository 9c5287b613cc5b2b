/-
  The reference's Seg: IDs, Touch.
-/
import Derived.Test.YthcalhmiielfkaaSegR
import Derived.Test.YthcalhmiielfkaaSegOnce
namespace Go.Proofs.Ythcalhmiielfkaa
open Go.RowKit

theorem ids_take {l : List Nd} {j : Nat} (hj : j < l.length) : ids (l.take (j + 1)) = ids (l.take j) ++ [(l.getD j (0, false)).1] := by
  unfold ids
  rw [List.take_add_one, List.getElem?_eq_getElem hj, List.map_append, List.getD_eq_getElem?_getD, List.getElem?_eq_getElem hj]
  rfl
theorem ids_len (l : List Nd) : (ids l).length = l.length := by unfold ids; simp

theorem IDs_eq {w : World} {v : Value} {l : List Nd} (h : RdNodes w v l) (hn : l.length ≤ 1000000) :
    Calls Try.prog 22 #[v] w fun e w' => ∃ v', e = .returned v' ∧ w'.ownsRow w.heap.size 3 1 v' (ids l).length (ints (ids l)) ∧ Fr Nob w w' := by
  obtain ⟨a, cap, rfl, h⟩ := h
  have H := Lib.hid h
  clear h
  go_enter Try.func22, Try.ntmps22
  go_wp2_with fail
  go_loopw [3, 4] (fun u i wr => ∃ j : Nat, j ≤ l.length ∧ i = .int .i64 j ∧ Hid (wr.ownsRow w.heap.size 3 1 u j (ints (ids (l.take j)))) ∧ Hid (Fr Nob w wr)) (fun _ i _ => l.length - (Lib.intOf i).toNat)
  case atStart => exact ⟨0, Nat.zero_le _, rfl, Lib.hid (World.ownsRow_nil _ _ _ _), Lib.hid (Fr.refl _ _)⟩
  case round =>
    obtain ⟨j, hj, rfl, own, f⟩ := hrel
    by_cases hjn : j < l.length
    · obtain ⟨g, rfl, c0, _⟩ := H.out j hjn
      have c1 := f.out.cell c0 (fun h => h)
      have htk := ids_take hjn
      generalize (l.getD j (0, false)).1 = y at c0 c1 htk
      have TK := Lib.hid htk
      clear c0 htk
      go_wp2_with (with_reducible refine wpList_app (o := ⟨some 18, _, _, _, _, _⟩) rfl (.tmp 11) (.tmp 17) 36 rfl 3 #[.int .i64 0] 1 8 Try.underlying36 int_info rfl (by omega) w.heap.size u3 j (ints (ids (l.take j))) rfl ((Fr.refl Nob wr).alloc _ |>.ownsRow own.out fun _ _ h => h) ⟨wr.heap.size, 0, none⟩ 1 1 [.int .i64 y] rfl rfl (new_one wr _ _) (by simp [Value.oneCell']) (by omega) (by omega) (by have := f.out.size; simp; omega) ?_)
      intro v' w3 o3 f3 h3
      have own3 : Hid (w3.ownsRow w.heap.size 3 1 v' (j + 1) (ints (ids (l.take (j + 1))))) := Lib.hid (by
        rw [TK.out, show ints (ids (l.take j) ++ [y]) = ints (ids (l.take j)) ++ [.int .i64 y] by simp]
        exact o3.out)
      have F3 : Hid (Fr Nob w w3) := Lib.hid ((f.out.alloc (.cells #[.int .i64 y] 3)).trans f3.out fun k hk e => absurd ((own.out.lt k e).1) (by omega))
      clear own f o3 f3 h3
      go_wp2_with fail
      go_roundw
      case rel => exact ⟨j + 1, by omega, by go_num, own3, F3⟩
      case measure => simp [Lib.intOf]; omega
    · have hj2 : j = l.length := by omega
      subst hj2
      have hown : wr.ownsRow w.heap.size 3 1 u3 (ids l).length (ints (ids l)) := by
        have := own.out
        rw [List.take_length] at this
        rw [ids_len]
        exact this
      have HO := Lib.hid hown
      clear own hown
      go_wp2_with fail
      go_ret
      exact ⟨_, rfl, HO.out, f.out⟩

def upd (l : List Nd) (x : Int) : List Nd := l.map fun y => if y.1 = x then (x, true) else y
theorem upd_none {l : List Nd} {x : Int} (h : x ∉ ids l) : upd l x = l := by
  unfold upd
  conv => rhs; rw [← List.map_id l]
  apply List.map_congr_left
  intro y hy
  rw [if_neg fun e => h (List.mem_map.2 ⟨y, hy, e⟩)]
  rfl
theorem upd_set {l : List Nd} {x : Int} (hn : (ids l).Nodup) {j : Nat} (hj : j < l.length) (he : (l.getD j (0, false)).1 = x) : upd l x = l.set j (x, true) := by
  have he' : l[j].1 = x := by
    rw [List.getD_eq_getElem?_getD, List.getElem?_eq_getElem hj] at he
    exact he
  unfold upd
  apply List.ext_getElem (by simp)
  intro i h1 h2
  have hi : i < l.length := by simpa using h1
  rw [List.getElem_map, List.getElem_set]
  by_cases e : j = i
  · subst e
    rw [if_pos rfl, if_pos he']
  · rw [if_neg e, if_neg fun e2 => e ?_]
    have := List.getElem_inj (xs := ids l) (i := j) (j := i) (h₀ := by rw [ids_len]; exact hj) (h₁ := by rw [ids_len]; exact hi) hn
    exact this.1 (by unfold ids; simp [he', e2])

theorem nodesV_set : ∀ (l : List Nd) (j : Nat) (x : Nd), j < l.length → nodesV (l.set j x) = ((nodesV l).set (j * 2) (.int .i64 x.1)).set (j * 2 + 1) (.bool x.2)
  | [], j, x, h => by simp at h
  | y :: l, 0, x, _ => rfl
  | y :: l, j + 1, x, h => by
    have := nodesV_set l j x (by simpa using h)
    rw [List.set_cons_succ, nodesV, this, show (j + 1) * 2 = j * 2 + 2 by omega]
    rfl

/-- A node's flag is set in its row. -/
theorem row_flag {w : World} {base : Nat} {e : TypeId} {g cap : Nat} {l : List Nd} (h : w.ownsRow base e 2 (.slice (some ⟨g, 0, none⟩) l.length cap) l.length (nodesV l)) {j : Nat} (hj : j < l.length) {x : Int} (hx : (l.getD j (0, false)).1 = x) :
    (w.setCell ⟨g, j * 2 + 1, none⟩ (.bool true)).ownsRow base e 2 (.slice (some ⟨g, 0, none⟩) l.length cap) l.length (nodesV (l.set j (x, true))) := by
  refine ⟨by rw [nodesV_len]; simp, ?_⟩
  rcases h.2 with ⟨h, _⟩ | ⟨g', cap', cur, he, h0, h1, h2, h3, h4, h5⟩
  · simp at h
  · simp only [Value.slice.injEq, Option.some.injEq, Addr.mk.injEq] at he
    obtain ⟨⟨rfl, _⟩, _, rfl⟩ := he
    refine .inr ⟨g, cap, cur.setIfInBounds (j * 2 + 1) (.bool true), rfl, h0, heap_setCell_same w g _ _ _ _ h1, h2, h3, by simpa using h4, ?_⟩
    have hat := (nodesV_at l j hj).1
    rw [nodesV_set l j _ hj, Array.toList_setIfInBounds, List.take_set, h5]
    congr 1
    apply List.ext_getElem?
    intro i
    rw [List.getElem?_set]
    split
    · rename_i e
      subst e
      rw [hat, hx]
      split
      · rfl
      · rename_i h6
        rw [nodesV_len] at h6
        omega
    · rfl

end Go.Proofs.Ythcalhmiielfkaa
