/-
  seg: two lists of numbers held against each other (the law's ints); the states of the first three numbers; the law's awake.
-/
import Derived.Test.YthcalhmiielfkaaSegL
import Derived.Test.YthcalhmiielfkaaSegE
namespace Go.Proofs.Ythcalhmiielfkaa
open Go.RowKit

def RdInts (w : World) (v : Value) (xs : List Int) : Prop := ∃ a cap, v = .slice a xs.length cap ∧ ∀ j, j < xs.length → ∃ g, a = some ⟨g, 0, none⟩ ∧ w.cell? ⟨g, j, none⟩ = some (.int .i64 (xs.getD j 0))

theorem RdInts.of_row {w : World} {base : Nat} {v : Value} {n : Nat} {xs : List Int} (h : w.ownsRow base 3 1 v n (ints xs)) : RdInts w v xs := by
  have hlen : xs.length = n := by simpa using h.1
  subst hlen
  rcases h.2 with ⟨rfl, h0⟩ | ⟨g, cap, _, rfl, _⟩
  · exact ⟨none, 0, by rw [h0], fun j hj => by omega⟩
  · obtain ⟨cur, h1, h2, h3, h4, h5, h6⟩ := row_cell h
    refine ⟨_, cap, rfl, fun j hj => ⟨g, rfl, ?_⟩⟩
    rw [cell_of_row w g j _ _ (0, 0) h1, h6 j hj, List.getElem?_map, List.getD_eq_getElem?_getD, List.getElem?_eq_getElem hj]
    rfl

theorem RdInts.keep {w w' : World} {v : Value} {xs : List Int} {T : Nat → Prop} (h : RdInts w v xs) (f : Fr T w w') (hn : ∀ k, v.ownBlock = some k → ¬ T k) : RdInts w' v xs := by
  obtain ⟨a, cap, rfl, h⟩ := h
  refine ⟨a, cap, rfl, fun j hj => ?_⟩
  obtain ⟨g, rfl, hc⟩ := h j hj
  exact ⟨g, rfl, f.cell hc (hn g rfl)⟩

theorem RdInts.new (w : World) (xs : List Int) (t : TypeId) : RdInts (w.alloc (.cells (ints xs).toArray t)) (.slice (some ⟨w.heap.size, 0, none⟩) xs.length xs.length) xs := by
  refine ⟨_, _, rfl, fun j hj => ⟨_, rfl, ?_⟩⟩
  rw [cell_of_row _ _ j _ _ (0, 0) (heap_alloc_new w _)]
  simp [List.getD_eq_getElem?_getD, hj]

theorem ints_eq {w : World} {v u : Value} {xs ys : List Int} (h1 : RdInts w v xs) (h2 : RdInts w u ys) (hn : xs.length ≤ 1000000) (_hm : ys.length ≤ 1000000) :
    Calls Try.prog 21 #[v, u] w fun e w' => e = .returned (.bool (decide (xs = ys))) ∧ ∃ n, w' = w.drewN n := by
  obtain ⟨a, cap, rfl, h1⟩ := h1
  obtain ⟨b, cap2, rfl, h2⟩ := h2
  have H1 := Lib.hid h1
  have H2 := Lib.hid h2
  clear h1 h2
  by_cases hl : xs.length = ys.length
  · have HL := Lib.hid hl
    rw [← hl]
    go_enter Try.func21, Try.ntmps21
    go_wp2_with fail
    go_loopw [5] (fun i wr => ∃ j : Nat, j ≤ xs.length ∧ i = .int .i64 j ∧ (∃ q, wr = w.drewN q) ∧ Hid (∀ k, k < j → xs.getD k 0 = ys.getD k 0)) (fun i _ => xs.length - (Lib.intOf i).toNat)
    case atStart => exact ⟨0, Nat.zero_le _, rfl, ⟨0, rfl⟩, Lib.hid fun k hk => absurd hk (by omega)⟩
    case round =>
      obtain ⟨j, hj, rfl, ⟨q, rfl⟩, E⟩ := hrel
      by_cases hjn : j < xs.length
      · obtain ⟨g, rfl, c1⟩ := H1.out j hjn
        obtain ⟨g2, rfl, c2⟩ := H2.out j (by rw [← HL.out]; exact hjn)
        have hex : ∃ x, xs.getD j 0 = x := ⟨_, rfl⟩
        have hey : ∃ y, ys.getD j 0 = y := ⟨_, rfl⟩
        obtain ⟨x, hx⟩ := hex
        obtain ⟨y, hy⟩ := hey
        rw [hx] at c1
        rw [hy] at c2
        by_cases hxy : x = y
        · subst hxy
          go_wp2_with fail
          go_quiet (fail)
          go_wp2_with fail
          go_roundw
          case rel =>
            refine ⟨j + 1, by omega, by go_num, ⟨_, rfl⟩, Lib.hid fun k hk => ?_⟩
            by_cases e : k = j
            · rw [e, hx, hy]
            · exact E.out k (by omega)
          case measure => simp [Lib.intOf]; omega
        · have hb : (x == y) = false := by simpa using hxy
          have hne : ¬ xs = ys := fun e => hxy (by rw [← hx, ← hy, e])
          go_wp2_with fail
          go_quiet (fail)
          go_wp2_with fail
          go_ret
          exact ⟨by simp [hne], _, World.drewN_drewN _ _ _⟩
      · have hj2 : j = xs.length := by omega
        have heq : xs = ys := by
          apply List.ext_getElem HL.out
          intro k h1 h2
          have := E.out k (by omega)
          rw [List.getD_eq_getElem?_getD, List.getD_eq_getElem?_getD, List.getElem?_eq_getElem h1, List.getElem?_eq_getElem h2] at this
          exact this
        have HE := Lib.hid heq
        clear heq
        subst hj2
        go_wp2_with fail
        go_ret
        exact ⟨by simp [HE.out], q, rfl⟩
  · have hne : ¬ xs = ys := fun e => hl (by rw [e])
    have hb : ((xs.length : Int) == (ys.length : Int)) = false := by simp; omega
    go_enter Try.func21, Try.ntmps21
    go_wp2_with fail
    go_ret
    exact ⟨by simp [hne], 0, rfl⟩

theorem snoc_inj {l l' : List Int} {x x' : Int} (h : l ++ [x] = l' ++ [x']) : l = l' ∧ x = x' := by
  obtain ⟨h1, h2⟩ := List.append_inj' h rfl
  exact ⟨h1, by simpa using h2⟩

theorem Sunk.det {q t : Nat} {S A B : Sg} (a : Sunk q t S A) (b : Sunk q t S B) : A = B := by
  induction a with
  | done h =>
    cases b with
    | done => rfl
    | more h2 _ _ => omega
  | more h hl _ ih =>
    cases b with
    | done h2 => omega
    | more _ hl2 k2 =>
      obtain ⟨rfl, rfl⟩ := snoc_inj (hl.symm.trans hl2)
      exact ih k2

theorem Moved.det {S A B : Sg} (a : Moved S A) (b : Moved S B) : A = B := by
  induction a with
  | done h =>
    cases b with
    | done => rfl
    | more hl hu _ => rw [h _ _ hl] at hu; cases hu
  | more hl hu _ ih =>
    cases b with
    | done h => rw [h _ _ hl] at hu; cases hu
    | more hl2 _ k2 =>
      obtain ⟨rfl, rfl⟩ := snoc_inj (hl.symm.trans hl2)
      exact ih k2

theorem Left.det {S A B : Sg} {x y : Int} (a : Left S x A) (b : Left S y B) : x = y ∧ A = B := by
  have nil : ∀ {l : List Int} {x : Int}, l ++ [x] ≠ [] := by intro l x h; simp at h
  cases a with
  | cold h =>
    cases b with
    | cold h2 => obtain ⟨rfl, rfl⟩ := snoc_inj (h.symm.trans h2); exact ⟨rfl, rfl⟩
    | warm c _ => rw [c] at h; exact absurd h.symm nil
    | hot c _ _ => rw [c] at h; exact absurd h.symm nil
  | warm c h =>
    cases b with
    | cold h2 => rw [c] at h2; exact absurd h2.symm nil
    | warm _ h2 => obtain ⟨rfl, rfl⟩ := snoc_inj (h.symm.trans h2); exact ⟨rfl, rfl⟩
    | hot _ m _ => rw [m] at h; exact absurd h.symm nil
  | hot c m h =>
    cases b with
    | cold h2 => rw [c] at h2; exact absurd h2.symm nil
    | warm _ h2 => rw [m] at h2; exact absurd h2.symm nil
    | hot _ _ h2 => obtain ⟨rfl, rfl⟩ := snoc_inj (h.symm.trans h2); exact ⟨rfl, rfl⟩

def A1 : Sg := Sg.none.pushed 1 0
def A2 : Sg := (A1.pushed 2 0).sink 0 [2] 1
def A3 : Sg := (A2.pushed 3 0).sink 0 [3] 2
def A4 : Sg := A3.touched 1
def A5 : Sg := ((A4.set 2 [2]).pushed 1 1)
def A6 : Sg := (A5.set 2 []).gone 2
def A7 : Sg := (A6.set 1 []).gone 1

theorem to_A1 {S : Sg} (h : AddTo Sg.none 1 S) : S = A1 ∧ S.Ok := by
  obtain ⟨o, _, h⟩ := h
  obtain ⟨S1, k1, k2⟩ := h rfl
  have e1 := k1.det (.done (by decide))
  subst e1
  exact ⟨k2.det (.done (by decide)), o⟩
theorem to_A2 {S : Sg} (h : AddTo A1 2 S) : S = A2 ∧ S.Ok := by
  obtain ⟨o, _, h⟩ := h
  obtain ⟨S1, k1, k2⟩ := h rfl
  have e1 := k1.det (.more (l := [2]) (x := 1) (by decide) rfl (.done (by decide)))
  subst e1
  exact ⟨k2.det (.done (by decide)), o⟩
theorem to_A3 {S : Sg} (h : AddTo A2 3 S) : S = A3 ∧ S.Ok := by
  obtain ⟨o, _, h⟩ := h
  obtain ⟨S1, k1, k2⟩ := h rfl
  have e1 := k1.det (.more (l := [3]) (x := 2) (by decide) rfl (.done (by decide)))
  subst e1
  exact ⟨k2.det (.done (by decide)), o⟩
theorem to_A6 {S : Sg} {x : Int} {ok : Bool} (h : EvTo A4 x ok S) : S = A6 ∧ x = 2 ∧ ok = true ∧ S.Ok := by
  obtain ⟨o, S1, k, h⟩ := h
  have e1 : S1 = A5 := k.det (.more (l := [2]) (x := 1) rfl rfl (.done fun l x h => by
    obtain ⟨_, rfl⟩ := snoc_inj (show ([] : List Int) ++ [2] = l ++ [x] from h)
    rfl))
  subst e1
  rcases h with ⟨rfl, h⟩ | ⟨_, _, h, _⟩
  · obtain ⟨rfl, h2⟩ := h.det (.cold (l := []) (x := 2) rfl)
    exact ⟨h2, rfl, rfl, o⟩
  · exact absurd h (by decide)
theorem to_A7 {S : Sg} (h : RemTo A6 1 S) : S = A7 ∧ S.Ok := by
  obtain ⟨o, h, _⟩ := h
  obtain ⟨t, a, b, ht, h1, h2⟩ := h rfl
  match t with
  | 0 =>
    have : (1 : Int) ∈ A6.get 0 := by rw [h1]; simp
    exact absurd this (by decide)
  | 1 =>
    have h3 : [(1 : Int)] = a ++ 1 :: b := h1
    cases a with
    | nil =>
      have : b = [] := by simpa using h3.symm
      subst this
      exact ⟨h2, o⟩
    | cons y a => simp at h3
  | 2 =>
    have : (1 : Int) ∈ A6.get 2 := by rw [h1]; simp
    exact absurd this (by decide)
  | t + 3 => omega

end Go.Proofs.Ythcalhmiielfkaa
