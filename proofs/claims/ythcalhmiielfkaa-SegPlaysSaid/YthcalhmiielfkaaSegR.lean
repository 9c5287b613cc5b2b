/-
  The reference's Seg: how its memory lies; all, has, Len, head.
-/
import Derived.Test.YthcalhmiielfkaaSegW
namespace Go.Proofs.Ythcalhmiielfkaa
open Go.RowKit

abbrev Nd := Int × Bool
/-- The cells of nodes in a row. -/
def nodesV : List Nd → List Value
  | [] => []
  | x :: l => .int .i64 x.1 :: .bool x.2 :: nodesV l
theorem nodesV_len : ∀ l : List Nd, (nodesV l).length = l.length * 2
  | [] => rfl
  | x :: l => by simp [nodesV, nodesV_len l]; omega
theorem nodesV_append : ∀ l m : List Nd, nodesV (l ++ m) = nodesV l ++ nodesV m
  | [], _ => rfl
  | x :: l, m => by simp [nodesV, nodesV_append l m]
theorem nodesV_one : ∀ l : List Nd, ∀ u ∈ nodesV l, u.oneCell' = true
  | [], u, h => by simp [nodesV] at h
  | x :: l, u, h => by
    simp only [nodesV, List.mem_cons] at h
    rcases h with rfl | rfl | h
    · rfl
    · rfl
    · exact nodesV_one l u h
theorem nodesV_at : ∀ (l : List Nd) (j : Nat), j < l.length → (nodesV l)[j * 2]? = some (.int .i64 (l.getD j (0, false)).1) ∧ (nodesV l)[j * 2 + 1]? = some (.bool (l.getD j (0, false)).2)
  | [], j, h => by simp at h
  | x :: l, 0, _ => ⟨rfl, rfl⟩
  | x :: l, j + 1, h => by
    have := nodesV_at l j (by simpa using h)
    rw [show (j + 1) * 2 = j * 2 + 2 by omega]
    simpa [nodesV] using this

structure RIn (w : World) (q : Nat) (V : Nat → Value) (R : Nat → List Nd) : Prop where
  top : w.heap[q]? = some (.cells #[V 0, V 1, V 2] 33 (0, 0))
  rows : ∀ t, t < 3 → w.ownsRow 0 59 2 (V t) (R t).length (nodesV (R t))
  sep : ∀ t g, t < 3 → (V t).ownBlock = some g → g ≠ q
  two : ∀ s t g, s < 3 → t < 3 → s ≠ t → (V s).ownBlock = some g → (V t).ownBlock ≠ some g

def ROwn (q : Nat) (V : Nat → Value) : Nat → Prop := fun k => k = q ∨ ∃ t, t < 3 ∧ (V t).ownBlock = some k

def RAt (w : World) (q : Nat) (K : Nat → Prop) (R : Nat → List Nd) : Prop := ∃ V, RIn w q V R ∧ ∀ k, K k ↔ ROwn q V k

theorem RIn.cells {w : World} {q : Nat} {V : Nat → Value} {R : Nat → List Nd} (s : RIn w q V R) : (∀ t, t < 3 → w.cell? ⟨q, t, none⟩ = some (V t)) ∧ ∀ j, w.frozen? ⟨q, j, none⟩ = false := by
  have h := fun j => cell_of_row w q j _ _ (0, 0) s.top
  refine ⟨fun t ht => ?_, fun j => frozen_of_row w q j _ _ s.top⟩
  match t with
  | 0 => exact h 0
  | 1 => exact h 1
  | 2 => exact h 2
  | t + 3 => omega

theorem RIn.keep {w w' : World} {q : Nat} {V : Nat → Value} {R : Nat → List Nd} {T : Nat → Prop} (s : RIn w q V R) (f : Fr T w w') (hT : ∀ k, ROwn q V k → ¬ T k) : RIn w' q V R where
  top := f.heap s.top (hT q (.inl rfl))
  rows := fun t ht => f.ownsRow (s.rows t ht) fun k hk => hT k (.inr ⟨t, ht, hk⟩)
  sep := s.sep
  two := s.two

theorem RAt.keep {w w' : World} {q : Nat} {K T : Nat → Prop} {R : Nat → List Nd} (s : RAt w q K R) (f : Fr T w w') (hT : ∀ k, K k → ¬ T k) : RAt w' q K R := by
  obtain ⟨V, s, hK⟩ := s
  exact ⟨V, s.keep f fun k hk => hT k ((hK k).2 hk), hK⟩
theorem RIn.lt {w : World} {q : Nat} {V : Nat → Value} {R : Nat → List Nd} (s : RIn w q V R) : ∀ k, ROwn q V k → k < w.heap.size := by
  rintro k (rfl | ⟨t, ht, hk⟩)
  · exact lt_of_block s.top
  · exact ((s.rows t ht).lt k hk).2
theorem RAt.lt {w : World} {q : Nat} {K : Nat → Prop} {R : Nat → List Nd} (s : RAt w q K R) : ∀ k, K k → k < w.heap.size := by
  obtain ⟨V, s, hK⟩ := s
  exact fun k hk => s.lt k ((hK k).1 hk)

/-- What a walk reads of a list of nodes: its slice, and each node's two cells. -/
def RdNodes (w : World) (v : Value) (l : List Nd) : Prop := ∃ a cap, v = .slice a l.length cap ∧ ∀ j, j < l.length → ∃ g, a = some ⟨g, 0, none⟩ ∧ w.cell? ⟨g, j * 2, none⟩ = some (.int .i64 (l.getD j (0, false)).1) ∧ w.cell? ⟨g, j * 2 + 1, none⟩ = some (.bool (l.getD j (0, false)).2)

theorem RdNodes.of_row {w : World} {base : Nat} {v : Value} {l : List Nd} (h : w.ownsRow base 59 2 v l.length (nodesV l)) : RdNodes w v l := by
  rcases h.2 with ⟨rfl, h0⟩ | ⟨g, cap, cur, rfl, _, h1, h2, h3, h4, h5⟩
  · exact ⟨none, 0, by rw [h0], fun j hj => by omega⟩
  · refine ⟨_, cap, rfl, fun j hj => ⟨g, rfl, ?_, ?_⟩⟩
    · have hc : cur[j * 2]? = (nodesV l)[j * 2]? := by
        rw [← h5, List.getElem?_take, if_pos (by omega)]
        simp
      rw [cell_of_row w g _ _ _ (0, 0) h1, hc, (nodesV_at l j hj).1]
    · have hc : cur[j * 2 + 1]? = (nodesV l)[j * 2 + 1]? := by
        rw [← h5, List.getElem?_take, if_pos (by omega)]
        simp
      rw [cell_of_row w g _ _ _ (0, 0) h1, hc, (nodesV_at l j hj).2]

theorem RdNodes.keep {w w' : World} {v : Value} {l : List Nd} {T : Nat → Prop} (h : RdNodes w v l) (f : Fr T w w') (hn : ∀ k, v.ownBlock = some k → ¬ T k) : RdNodes w' v l := by
  obtain ⟨a, cap, rfl, h⟩ := h
  refine ⟨a, cap, rfl, fun j hj => ?_⟩
  obtain ⟨g, rfl, c1, c2⟩ := h j hj
  exact ⟨g, rfl, f.cell c1 (hn g rfl), f.cell c2 (hn g rfl)⟩

theorem RdNodes.news {w : World} {a : Option Addr} {cap : Nat} {l : List Nd} (h : RdNodes w (.slice a l.length cap) l) (h0 : 0 < l.length) : ∃ g, a = some ⟨g, 0, none⟩ ∧ ∀ j u, (nodesV l)[j]? = some u → w.cell? ((⟨g, 0, none⟩ : Addr).add j) = some u := by
  obtain ⟨a', cap', he, h⟩ := h
  simp only [Value.slice.injEq] at he
  obtain ⟨rfl, _, _⟩ := he
  obtain ⟨g, hg, _, _⟩ := h 0 h0
  refine ⟨g, hg, fun j u hu => ?_⟩
  have hj : j < l.length * 2 := by
    rw [← nodesV_len]
    exact (List.getElem?_eq_some_iff.1 hu).1
  obtain ⟨g', hg', c1, c2⟩ := h (j / 2) (by omega)
  obtain ⟨n1, n2⟩ := nodesV_at l (j / 2) (by omega)
  rw [hg] at hg'
  have hgg : g = g' := by simpa using hg'
  subst hgg
  have hadd : (⟨g, 0, none⟩ : Addr).add j = ⟨g, j, none⟩ := by unfold Addr.add; split <;> simp_all
  rw [hadd]
  by_cases e : j % 2 = 0
  · have hj2 : j = j / 2 * 2 := by omega
    rw [hj2] at hu ⊢
    rw [n1] at hu
    rw [c1]
    exact hu
  · have hj2 : j = j / 2 * 2 + 1 := by omega
    rw [hj2] at hu ⊢
    rw [n2] at hu
    rw [c2]
    exact hu

theorem all_eq (w : World) (q : Nat) : Calls Try.prog 33 #[.pointer (some ⟨q, 0, none⟩)] w fun e w' => ∃ B, e = .returned (.slice (some ⟨B, 0, none⟩) 3 3) ∧ (∀ t, t < 3 → w'.cell? ⟨B, t, none⟩ = some (.pointer (some ⟨q, t, none⟩))) ∧ Fr Nob w w' ∧ w.heap.size ≤ B := by
  go_enter Try.func33, Try.ntmps33
  go_wp2_with fail
  go_region
  all_goals
    go_wp2_with fail
    go_ret
    refine ⟨w.heap.size, rfl, fun t ht => ?_, ((Fr.refl Nob w).alloc _).drew, Nat.le_refl _⟩
    have h := fun j => cell_of_row _ w.heap.size j _ _ (0, 0) (heap_alloc_new w (.cells #[.pointer (some ⟨q, 0, none⟩), .pointer (some ⟨q, 1, none⟩), .pointer (some ⟨q, 2, none⟩)] 62))
    match t with
    | 0 => exact h 0
    | 1 => exact h 1
    | 2 => exact h 2
    | t + 3 => omega

theorem node_info : (Try.prog.info? 59).map (fun i => (i.zero.map Value.cells, i.size, i.bytes)) = some (some #[.int .i64 0, .bool false], 2, 16) := by kernel_rfl

theorem head_eq {w : World} {v : Value} {l : List Nd} (h : RdNodes w v l) (hn : l.length ≤ 1000000) (x : Int) :
    Calls Try.prog 32 #[v, .int .i64 x] w fun e w' => ∃ v', e = .returned v' ∧ w'.ownsRow w.heap.size 59 2 v' (l.length + 1) (nodesV ((x, false) :: l)) ∧ Fr Nob w w' := by
  have own1 : (w.alloc (.cells #[.int .i64 x, .bool false] 59)).ownsRow w.heap.size 59 2 (.slice (some ⟨w.heap.size, 0, none⟩) 1 1) 1 [.int .i64 x, .bool false] :=
    ⟨rfl, .inr ⟨w.heap.size, 1, _, rfl, Nat.le_refl _, heap_alloc_new w _, by omega, by unfold maxLen; omega, rfl, rfl⟩⟩
  have O1 := Lib.hid own1
  clear own1
  obtain ⟨a, cap, rfl, hc⟩ := h
  by_cases h0 : 0 < l.length
  · obtain ⟨g, rfl, hnews⟩ := RdNodes.news ⟨a, cap, rfl, hc⟩ h0
    have N := Lib.hid hnews
    have hlen2 := nodesV_len l
    clear hc hnews
    go_enter Try.func32, Try.ntmps32
    go_wp2_with (with_reducible refine wpList_app (o := ⟨some 9, _, _, _, _, _⟩) rfl (.tmp 7) (.tmp 8) 31 rfl 59 #[.int .i64 0, .bool false] 2 16 Try.underlying31 node_info rfl (by omega) w.heap.size (.slice (some ⟨w.heap.size, 0, none⟩) 1 1) 1 [.int .i64 x, .bool false] rfl O1.out ⟨g, 0, none⟩ l.length cap (nodesV l) rfl hlen2 (fun j u hu => ((Fr.refl Nob w).alloc _).cell (N.out j u hu) fun h => h) (nodesV_one l) (by omega) (by omega) (by simp) ?_)
    intro v' w3 o3 f3 h3
    go_wp2_with fail
    go_ret
    refine ⟨v', rfl, ?_, ?_⟩
    · have := o3.out
      rw [Nat.add_comm] at this
      exact this
    · exact ((Fr.refl Nob w).alloc (.cells #[.int .i64 x, .bool false] 59)).trans f3.out fun k hk e => by
        simp [Value.ownBlock] at e
        omega
  · have hl : l = [] := List.length_eq_zero_iff.1 (by omega)
    subst hl
    clear hc h0
    cases a with
    | none =>
      go_enter Try.func32, Try.ntmps32
      go_wp2_with fail
      go_ret
      exact ⟨_, rfl, O1.out, (Fr.refl Nob w).alloc _⟩
    | some ad =>
      go_enter Try.func32, Try.ntmps32
      go_wp2_with fail
      go_ret
      exact ⟨_, rfl, O1.out, (Fr.refl Nob w).alloc _⟩

def rLen (R : Nat → List Nd) : Nat := (R 0).length + (R 1).length + (R 2).length

theorem rlen_eq {w : World} {q : Nat} {K : Nat → Prop} {R : Nat → List Nd} (s : RAt w q K R) (hn : rLen R ≤ 1000000) :
    Calls Try.prog 23 #[.pointer (some ⟨q, 0, none⟩)] w fun e w' => e = .returned (.int .i64 (rLen R)) ∧ Fr Nob w w' := by
  obtain ⟨V, s, hK⟩ := s
  obtain ⟨ct, _⟩ := s.cells
  obtain ⟨a0, p0, h0⟩ := row_shape (s.rows 0 (by omega))
  obtain ⟨a1, p1, h1⟩ := row_shape (s.rows 1 (by omega))
  obtain ⟨a2, p2, h2⟩ := row_shape (s.rows 2 (by omega))
  have c0 := ct 0 (by omega)
  have c1 := ct 1 (by omega)
  have c2 := ct 2 (by omega)
  rw [h0] at c0
  rw [h1] at c1
  rw [h2] at c2
  unfold rLen at hn ⊢
  generalize (R 0).length = n0 at *
  generalize (R 1).length = n1 at *
  generalize (R 2).length = n2 at *
  clear ct hK s h0 h1 h2
  go_enter Try.func23, Try.ntmps23
  go_wp2_with fail
  go_quiet (fail)
  go_wp2_with fail
  go_ret
  exact ⟨rfl, (Fr.refl Nob w).drewN _⟩

def ids (l : List Nd) : List Int := l.map Prod.fst
def rHas (R : Nat → List Nd) (x : Int) : Bool := decide (x ∈ ids (R 0) ++ ids (R 1) ++ ids (R 2))
theorem rHas_iff {R : Nat → List Nd} {x : Int} : rHas R x = true ↔ ∃ t, t < 3 ∧ x ∈ ids (R t) := by
  unfold rHas
  rw [decide_eq_true_iff, List.mem_append, List.mem_append]
  constructor
  · rintro ((h | h) | h)
    · exact ⟨0, by omega, h⟩
    · exact ⟨1, by omega, h⟩
    · exact ⟨2, by omega, h⟩
  · rintro ⟨t, ht, h⟩
    match t with
    | 0 => exact .inl (.inl h)
    | 1 => exact .inl (.inr h)
    | 2 => exact .inr h
    | t + 3 => omega
theorem ids_at {l : List Nd} {x : Int} (h : ∀ j, j < l.length → (l.getD j (0, false)).1 ≠ x) : x ∉ ids l := by
  intro hm
  obtain ⟨y, hy, rfl⟩ := List.mem_map.1 hm
  obtain ⟨j, hj, rfl⟩ := List.getElem_of_mem hy
  apply h j hj
  rw [List.getD_eq_getElem?_getD, List.getElem?_eq_getElem hj]
  rfl
theorem ids_of {l : List Nd} {j : Nat} (hj : j < l.length) : (l.getD j (0, false)).1 ∈ ids l := by
  rw [List.getD_eq_getElem?_getD, List.getElem?_eq_getElem hj]
  exact List.mem_map.2 ⟨l[j], List.getElem_mem hj, rfl⟩

theorem has_in {w : World} {q : Nat} {K : Nat → Prop} {R : Nat → List Nd} (s : RAt w q K R) (hn : rLen R ≤ 1000000) (x : Int) (b : Bool) (hb : rHas R x = b) :
    Calls Try.prog 31 #[.pointer (some ⟨q, 0, none⟩), .int .i64 x] w fun e w' => e = .returned (.bool b) ∧ Fr Nob w w' := by
  go_enter Try.func31, Try.ntmps31
  go_wp2_with fail
  refine (all_eq w q).mono ?_
  rintro e w1 ⟨B, rfl, hB, f1, hlt⟩
  have HB := Lib.hid hB
  have F1 := Lib.hid f1
  obtain ⟨V, s, hK⟩ := s
  have s1 := Lib.hid (s.keep f1 fun _ _ h => h)
  clear hB f1 hK s hlt
  have hin := rHas_iff (R := R) (x := x)
  rw [hb] at hin
  have HI := Lib.hid hin
  clear hin hb
  go_wp2_with fail
  go_loop [6] (fun m => ∃ k : Nat, k ≤ 3 ∧ m = .int .i64 k ∧ Hid (∀ t, t < k → x ∉ ids (R t))) (fun m => 3 - (Lib.intOf m).toNat)
  case atStart => exact ⟨0, by omega, rfl, Lib.hid fun t h => absurd h (by omega)⟩
  case round =>
    obtain ⟨k, hk, rfl, no⟩ := hrel
    by_cases hk3 : k = 3
    · subst hk3
      have hbf : b = false := by
        cases b with
        | false => rfl
        | true => obtain ⟨t, ht, hm⟩ := HI.out.1 rfl; exact absurd hm (no.out t ht)
      subst hbf
      go_wp2_with fail
      go_ret
      exact ⟨rfl, F1.out⟩
    · have hk' : k < 3 := by omega
      have hp := HB.out k hk'
      obtain ⟨a, cap, hv, hc⟩ := RdNodes.of_row (s1.out.rows k hk')
      have cv := s1.out.cells.1 k hk'
      rw [hv] at cv
      have HC := Lib.hid hc
      have hle : (R k).length ≤ 1000000 := by
        unfold rLen at hn
        match k, hk' with
        | 0, _ => omega
        | 1, _ => omega
        | 2, _ => omega
        | k + 3, h => omega
      clear hc hv
      go_wp2_with fail
      go_loop [8] (fun m => ∃ j : Nat, j ≤ (R k).length ∧ m = .int .i64 j ∧ Hid (∀ i, i < j → ((R k).getD i (0, false)).1 ≠ x)) (fun m => (R k).length - (Lib.intOf m).toNat)
      case atStart => exact ⟨0, by omega, rfl, Lib.hid fun i h => absurd h (by omega)⟩
      case round =>
        obtain ⟨j, hj, rfl, ne⟩ := hrel
        by_cases hjl : j < (R k).length
        · obtain ⟨g, rfl, d1, _⟩ := HC.out j hjl
          have hmem := ids_of hjl
          obtain ⟨y, hy⟩ : ∃ y, ((R k).getD j (0, false)).1 = y := ⟨_, rfl⟩
          have HY := Lib.hid hy
          rw [hy] at d1 hmem
          have HM := Lib.hid hmem
          clear hmem hy
          by_cases hyx : y = x
          · subst hyx
            have hbt : b = true := HI.out.2 ⟨k, hk', HM.out⟩
            subst hbt
            go_wp2_with fail
            go_ret
            exact ⟨rfl, F1.out⟩
          · have hbe : (y == x) = false := by simpa using hyx
            go_wp2_with fail
            go_round
            case rel =>
              refine ⟨j + 1, by omega, by go_num, Lib.hid fun i hi => ?_⟩
              by_cases e : i = j
              · rw [e, HY.out]; exact hyx
              · exact ne.out i (by omega)
            case measure => simp [Lib.intOf]; omega
        · have hjl2 : j = (R k).length := by omega
          subst hjl2
          have no2 := Lib.hid (ids_at ne.out)
          go_wp2_with fail
          go_round
          case rel =>
            refine ⟨k + 1, by omega, by go_num, Lib.hid fun t ht => ?_⟩
            by_cases e : t = k
            · rw [e]; exact no2.out
            · exact no.out t (by omega)
          case measure => simp [Lib.intOf]; omega

theorem has_eq {w : World} {q : Nat} {K : Nat → Prop} {R : Nat → List Nd} (s : RAt w q K R) (hn : rLen R ≤ 1000000) (x : Int) :
    Calls Try.prog 31 #[.pointer (some ⟨q, 0, none⟩), .int .i64 x] w fun e w' => e = .returned (.bool (rHas R x)) ∧ Fr Nob w w' := has_in s hn x _ rfl

end Go.Proofs.Ythcalhmiielfkaa
