/-
  slices.Insert at the head, slices.Clone, slices.Delete at []int, over rows that the caller owns: the shelf's contracts, told with 'ownsRow' and 'Fr'.
-/
import Derived.Test.YtpbbokpmlemboaaBase
import Derived.Shelf.Spec.SlicesInsert
import Derived.Shelf.Spec.SlicesInsertGrow
import Derived.Shelf.Slices.Clone
import Derived.Shelf.Slices.Delete
import Derived.Shelf.Slices.Cells
import Derived.Shelf.Slices.Empties
namespace Go.Proofs.Ytpbbokpmlemboaa
open Go.RowKit Go.Shelf

def insRen : Go.Shelf.Ren := ⟨fun | 21 => 62 | 27 => 70 | 28 => 71 | 35 => 83 | 39 => 90 | n => n, fun | 22 => 77 | 3 => 3 | 4 => 4 | 0 => 0 | n => n, fun | n => n⟩
theorem insLay : Go.Proofs.Lays2.n21 Try.prog insRen := {
  mixed := by kernel_rfl
  f21 := Try.func62.trans (congrArg some (by kernel_rfl))
  f27 := Try.func70.trans (congrArg some (by kernel_rfl))
  f28 := Try.func71.trans (congrArg some (by kernel_rfl))
  f35 := Try.func83.trans (congrArg some (by kernel_rfl))
  f39 := Try.func90.trans (congrArg some (by kernel_rfl))
  t0 := Try.underlying0
  a0 := Try.isAgg0
  z0 := Try.sizeOf0
  v0 := Try.zeroValue0
  t3 := Try.underlying3
  a3 := Try.isAgg3
  z3 := Try.sizeOf3
  v3 := Try.zeroValue3
  t4 := Try.underlying4
  a4 := Try.isAgg4
  z4 := Try.sizeOf4
  v4 := Try.zeroValue4
  t22 := Try.underlying77
  a22 := Try.isAgg77
  z22 := Try.sizeOf77
  v22 := Try.zeroValue77
  i3 := by kernel_rfl }

def cloRen : Go.Shelf.Ren := ⟨fun | 15 => 55 | n => n, fun | 22 => 77 | 3 => 3 | 4 => 4 | n => n, fun | n => n⟩
theorem cloLay : Go.Proofs.Lays2.n15 Try.prog cloRen := {
  mixed := by kernel_rfl
  f15 := Try.func55.trans (congrArg some (by kernel_rfl))
  t3 := Try.underlying3
  a3 := Try.isAgg3
  z3 := Try.sizeOf3
  v3 := Try.zeroValue3
  t4 := Try.underlying4
  a4 := Try.isAgg4
  z4 := Try.sizeOf4
  v4 := Try.zeroValue4
  t22 := Try.underlying77
  a22 := Try.isAgg77
  z22 := Try.sizeOf77
  v22 := Try.zeroValue77
  i3 := by kernel_rfl }

def delRen : Go.Shelf.Ren := ⟨fun | 23 => 65 | n => n, fun | 22 => 77 | 3 => 3 | 4 => 4 | 0 => 0 | n => n, fun | n => n⟩
theorem delLay : Go.Proofs.Lays2.n23 Try.prog delRen := {
  mixed := by kernel_rfl
  f23 := Try.func65.trans (congrArg some (by kernel_rfl))
  t0 := Try.underlying0
  a0 := Try.isAgg0
  z0 := Try.sizeOf0
  v0 := Try.zeroValue0
  t3 := Try.underlying3
  a3 := Try.isAgg3
  z3 := Try.sizeOf3
  v3 := Try.zeroValue3
  t4 := Try.underlying4
  a4 := Try.isAgg4
  z4 := Try.sizeOf4
  v4 := Try.zeroValue4
  t22 := Try.underlying77
  a22 := Try.isAgg77
  z22 := Try.sizeOf77
  v22 := Try.zeroValue77
  i3 := by kernel_rfl }

theorem setCells_row {b : Nat} {t : TypeId} : ∀ (vs : List Value) (o : Nat) (w : World) (cur : Array Value), w.heap[b]? = some (.cells cur t (0, 0)) →
    ∃ cur', (w.setCells b o vs).heap[b]? = some (.cells cur' t (0, 0)) ∧ cur'.size = cur.size ∧ (∀ j, j < vs.length → o + j < cur.size → cur'[o + j]? = vs[j]?) ∧ ∀ k, k < o ∨ o + vs.length ≤ k → cur'[k]? = cur[k]?
  | [], o, w, cur, h => ⟨cur, h, rfl, fun j hj => by simp at hj, fun _ _ => rfl⟩
  | v :: vs, o, w, cur, h => by
    obtain ⟨cur', h1, h2, h3, h4⟩ := setCells_row vs (o + 1) (w.setCell ⟨b, o, none⟩ v) _ (heap_setCell_same w b o cur t v h)
    refine ⟨cur', h1, by rw [h2]; simp, fun j hj hs => ?_, fun k hk => ?_⟩
    · cases j with
      | zero =>
        rw [h4 (o + 0) (.inl (by omega))]
        have : o < cur.size := by omega
        simp [this]
      | succ j =>
        have := h3 j (by simpa using hj) (by simp; omega)
        rw [show o + (j + 1) = o + 1 + j by omega, this]
        simp
    · rw [h4 k (by simp at hk ⊢; omega), Array.getElem?_setIfInBounds_ne (by simp at hk; omega)]

theorem Fr.setCells {S : Nat → Prop} {a : World} {b : Nat} (hb : b < a.heap.size → S b) : ∀ (vs : List Value) (o : Nat) {w : World}, Fr S a w → Fr S a (w.setCells b o vs)
  | [], _, _, h => h
  | v :: vs, o, _, h => Fr.setCells hb vs (o + 1) (h.setCell ⟨b, o, none⟩ hb v)

theorem Fr.put {S : Nat → Prop} {a w : World} (h : Fr S a w) {b : Nat} (hb : b < a.heap.size → S b) (vs : List Value) (o : Nat) : Fr S a (w.setCells b o vs) := Fr.setCells hb vs o h

theorem take_ext {cur : Array Value} {L : List Value} (h : ∀ j, j < L.length → cur[j]? = L[j]?) : cur.toList.take L.length = L := by
  apply List.ext_getElem?
  intro j
  rw [List.getElem?_take]
  split
  · rename_i hj
    rw [← h j hj]
    simp
  · rename_i hj
    exact (List.getElem?_eq_none (by omega)).symm

/-- What a row's cells hold. -/
theorem row_cell {w : World} {base : Nat} {e : TypeId} {g n cap : Nat} {xs : List Value} (h : w.ownsRow base e 1 (.slice (some ⟨g, 0, none⟩) n cap) n xs) :
    ∃ cur : Array Value, w.heap[g]? = some (.cells cur e (0, 0)) ∧ cur.size = cap ∧ n ≤ cap ∧ cap ≤ maxLen ∧ xs.length = n ∧ ∀ j, j < n → cur[j]? = xs[j]? := by
  obtain ⟨h0, h | ⟨g', cap', cur, he, _, h1, h2, h3, h4, h5⟩⟩ := h
  · simp at h
  · simp only [Value.slice.injEq, Option.some.injEq, Addr.mk.injEq] at he
    obtain ⟨⟨rfl, _⟩, _, rfl⟩ := he
    refine ⟨cur, h1, by simpa using h4, h2, h3, by simpa using h0, fun j hj => ?_⟩
    rw [← h5, List.getElem?_take, if_pos (by omega)]
    simp

theorem row_of {w : World} {base : Nat} {e : TypeId} {g n cap : Nat} {xs : List Value} {cur : Array Value} (hb : base ≤ g) (h1 : w.heap[g]? = some (.cells cur e (0, 0))) (h2 : cur.size = cap) (h3 : n ≤ cap) (h4 : cap ≤ maxLen) (h5 : xs.length = n)
    (h6 : ∀ j, j < n → cur[j]? = xs[j]?) : w.ownsRow base e 1 (.slice (some ⟨g, 0, none⟩) n cap) n xs := by
  subst h5
  refine ⟨by simp, .inr ⟨g, cap, cur, rfl, hb, h1, h3, h4, by simpa using h2, ?_⟩⟩
  rw [Nat.mul_one]
  exact take_ext h6

theorem row_slice {w : World} {base : Nat} {e : TypeId} {v : Value} {n : Nat} {xs : List Value} (h : w.ownsRow base e 1 v (n + 1) xs) : ∃ g cap, v = .slice (some ⟨g, 0, none⟩) (n + 1) cap := by
  rcases h.2 with ⟨_, h⟩ | ⟨g, cap, _, h, _⟩
  · omega
  · exact ⟨g, cap, h⟩

/-- A shorter beginning of a row. -/
theorem row_cut {w : World} {base : Nat} {e : TypeId} {g n cap : Nat} {xs : List Value} (h : w.ownsRow base e 1 (.slice (some ⟨g, 0, none⟩) n cap) n xs) (hb : base ≤ g) {m : Nat} (hm : m ≤ n) : w.ownsRow base e 1 (.slice (some ⟨g, 0, none⟩) m cap) m (xs.take m) := by
  obtain ⟨cur, h1, h2, h3, h4, h5, h6⟩ := row_cell h
  refine row_of hb h1 h2 (by omega) h4 (by rw [List.length_take]; omega) fun j hj => ?_
  rw [h6 j (by omega), List.getElem?_take, if_pos hj]

abbrev ints (xs : List Int) : List Value := xs.map (Value.int .i64)

theorem ints_one (xs : List Int) : ∀ v ∈ ints xs, v.oneCell' = true := by
  intro v hv
  obtain ⟨x, _, rfl⟩ := List.mem_map.1 hv
  rfl

theorem insert0 {w : World} {v : Value} {n : Nat} {xs : List Int} (ho : w.ownsRow 0 3 1 v n (ints xs)) (hn : n ≤ 1000000) (y : Int) {vb : Nat} (hx : w.heap[vb]? = some (.cells #[.int .i64 y] 3 (0, 0))) (hvb : v.ownBlock ≠ some vb) :
    Calls Try.prog 62 #[v, .int .i64 0, .slice (some ⟨vb, 0, none⟩) 1 1] w fun e w' => ∃ v', e = .returned v' ∧ w'.ownsRow 0 3 1 v' (n + 1) (ints (y :: xs)) ∧ Fr (fun k => some k = v.ownBlock) w w' ∧
      (∀ g, v'.ownBlock = some g → v.ownBlock = some g ∨ w.heap.size ≤ g) := by
  have hvs : ∀ j u, [Value.int .i64 y][j]? = some u → w.cell? ⟨vb, 0 + j, none⟩ = some u := fun j u hj => by
    rw [cell_of_row w vb (0 + j) _ _ (0, 0) hx, Nat.zero_add]
    simpa using hj
  have h1v : ∀ v ∈ [Value.int .i64 y], v.oneCell' = true := by simp [Value.oneCell']
  have hg1 := grownCap_ge w (n + 1)
  have hg2 := fun old e => grownCap_le_maxLen w (n + 1) old e (by unfold maxLen; omega)
  have hlen : (ints xs).length = n := by simpa using ho.1
  have hz : ∀ k, (Builtin.zeroCells (Value.int .i64 0).cells k).size = k := fun k => by simp [Builtin.zeroCells, Value.cells]
  rcases ho.2 with ⟨rfl, rfl⟩ | ⟨g, cap, cur, rfl, _, _⟩
  · have hxs : xs = [] := by simpa using hlen
    subst hxs
    refine (Any2.slices_Insert_int_end_grow insLay none 0 0 vb 0 1 1 [] [.int .i64 y] w (by omega) (by omega) (by omega) (by omega) rfl rfl (fun _ => rfl) (fun a h => by cases h) hvs h1v).mono ?_
    rintro e w' ⟨rfl, rfl⟩
    refine ⟨_, rfl, row_of (Nat.zero_le _) (heap_alloc_new w.drew _) (by rw [Array.size_append, hz]; have := hg1 0 (insRen.t 3); show 1 + (_ - (0 + 1)) = _; omega) (hg1 _ _) (hg2 _ _) rfl fun j hj => ?_, (Fr.refl _ _).drew.alloc _, fun g hg => .inr ?_⟩
    · have : j = 0 := by omega
      subst this
      rw [Array.getElem?_append_left (by simp)]
      rfl
    · simp [Value.ownBlock] at hg
      omega
  · obtain ⟨cur, h1, h2, h3, h4, h5, h6⟩ := row_cell ho
    have hS : Fr (fun k => some k = (Value.slice (some ⟨g, 0, none⟩) n cap).ownBlock) w w := Fr.refl _ _
    have hne : vb ≠ g := fun e => hvb (by rw [e]; rfl)
    have hcell : ∀ j, w.cell? ⟨g, j, none⟩ = cur[j]? := fun j => cell_of_row w g j _ _ (0, 0) h1
    have hcs : ∀ j v, (ints xs)[j]? = some v → w.cell? ⟨g, 0 + j, none⟩ = some v := fun j v hj => by
      have : j < n := by have := (List.getElem?_eq_some_iff.1 hj).1; omega
      rw [Nat.zero_add, hcell, h6 j this, hj]
    by_cases hroom : n + 1 ≤ cap
    · have hsp : ∀ j, j < n + 1 → (w.cell? ⟨g, 0 + j, none⟩).isSome = true := fun j hj => by
        rw [Nat.zero_add, hcell, Array.getElem?_eq_getElem (by omega)]
        rfl
      have hfz : ∀ j, j < n + 1 → w.frozen? ⟨g, 0 + j, none⟩ = false := fun j _ => frozen_of_row w g _ _ _ h1
      by_cases hn0 : n = 0
      · subst hn0
        have hxs : xs = [] := by simpa using hlen
        subst hxs
        refine (Any2.slices_Insert_int_end_room insLay g 0 0 cap vb 0 1 1 [.int .i64 y] w (by omega) hroom (by unfold maxLen at h4; omega) rfl (fun j hj => by simpa using hsp j (by omega)) (fun j hj => by simpa using hfz j (by omega)) hvs h1v).mono ?_
        rintro e w' ⟨rfl, rfl⟩
        obtain ⟨cur', k1, k2, k3, _⟩ := setCells_row [.int .i64 y] (0 + 0) w cur h1
        refine ⟨_, rfl, row_of (Nat.zero_le _) k1 (k2.trans h2) hroom h4 rfl fun j hj => ?_, hS.put (fun _ => rfl) _ _, fun g' hg => .inl hg⟩
        have : j = 0 := by omega
        subst this
        exact k3 0 (by simp) (by omega)
      · refine (Any2.slices_Insert_int_shift insLay g 0 n cap 0 vb 0 1 1 (ints xs) [.int .i64 y] w (by omega) (by omega) hroom (by unfold maxLen at h4; omega) hne hlen rfl hcs hsp hfz hvs (ints_one xs) h1v
          3 3 1 cur.size (by simp [World.shape?, hx]) (by simp [World.shape?, h1]) (by omega) (frozen_of_row w vb _ _ _ hx) (frozen_of_row w vb _ _ _ hx)).mono ?_
        rintro e w' ⟨rfl, rfl⟩
        obtain ⟨cur', k1, k2, k3, k4⟩ := setCells_row ((ints xs).drop 0) (0 + (0 + 1)) w.drew cur h1
        obtain ⟨cur2, q1, q2, q3, q4⟩ := setCells_row [.int .i64 y] (0 + 0) _ cur' k1
        refine ⟨_, rfl, row_of (Nat.zero_le _) q1 (q2.trans (k2.trans h2)) hroom h4 (by simp; simpa using hlen) fun j hj => ?_, (hS.drew.put (fun _ => rfl) _ _).put (fun _ => rfl) _ _, fun g' hg => .inl hg⟩
        cases j with
        | zero => exact q3 0 (by simp) (by omega)
        | succ j =>
          rw [q4 (j + 1) (.inr (by simp)), show j + 1 = 0 + (0 + 1) + j by omega, k3 j (by simp at hlen ⊢; omega) (by omega)]
          simp [Nat.add_comm]
    · have hcap : cap = n := by omega
      by_cases hn0 : n = 0
      · have hxs : xs = [] := by
          subst hn0
          simpa using hlen
        subst hn0
        subst hxs
        refine (Any2.slices_Insert_int_end_grow insLay (some ⟨g, 0, none⟩) 0 cap vb 0 1 1 [] [.int .i64 y] w (by omega) (by omega) (by omega) (by omega) rfl rfl (fun h => by cases h) (fun a _ j v h => by simp at h) hvs h1v).mono ?_
        rintro e w' ⟨rfl, rfl⟩
        refine ⟨_, rfl, row_of (Nat.zero_le _) (heap_alloc_new w.drew _) (by rw [Array.size_append, hz]; have := hg1 cap (insRen.t 3); show 1 + (_ - (0 + 1)) = _; omega) (hg1 _ _) (hg2 _ _) rfl fun j hj => ?_, (Fr.refl _ _).drew.alloc _, fun g' hg => .inr ?_⟩
        · have : j = 0 := by omega
          subst this
          rw [Array.getElem?_append_left (by simp)]
          rfl
        · simp [Value.ownBlock] at hg
          omega
      · refine (Any2.slices_Insert_int_grow insLay g 0 n cap 0 vb 0 1 1 (ints xs) [.int .i64 y] w (by omega) (by omega) (by omega) (by omega) (by omega) hlen rfl hcs hvs (ints_one xs) h1v).mono ?_
        rintro e w' ⟨rfl, rfl⟩
        have hh := heap_alloc_new w (.cells (((ints xs).take 0).toArray ++ Builtin.zeroCells (Value.int .i64 0).cells (n + 1 - 0) ++ Builtin.zeroCells (Value.int .i64 0).cells (grownCap w (n + 1) cap (insRen.t 3) - (n + 1))) (insRen.t 3))
        have hsz : (((ints xs).take 0).toArray ++ Builtin.zeroCells (Value.int .i64 0).cells (n + 1 - 0) ++ Builtin.zeroCells (Value.int .i64 0).cells (grownCap w (n + 1) cap (insRen.t 3) - (n + 1))).size = grownCap w (n + 1) cap (insRen.t 3) := by
          rw [Array.size_append, Array.size_append, hz, hz]
          have := hg1 cap (insRen.t 3)
          simp
          omega
        have hbig := hg1 cap (insRen.t 3)
        obtain ⟨cur1, k1, k2, k3, k4⟩ := setCells_row [.int .i64 y] 0 (World.drew (w.alloc _)) _ hh
        obtain ⟨cur2, q1, q2, q3, q4⟩ := setCells_row ((ints xs).drop 0) (0 + 1) (World.drew (World.setCells (World.drew (w.alloc _)) w.heap.size 0 [.int .i64 y])) _ k1
        refine ⟨_, rfl, row_of (Nat.zero_le _) q1 (q2.trans (k2.trans hsz)) hbig (hg2 _ _) (by simp; simpa using hlen) fun j hj => ?_, ((hS.alloc _).drew.put (fun h => absurd h (by omega)) _ _).drew.put (fun h => absurd h (by omega)) _ _, fun g' hg => .inr ?_⟩
        · cases j with
          | zero => rw [q4 0 (.inl (by omega))]; exact k3 0 (by simp) (by rw [hsz]; omega)
          | succ j =>
            rw [show j + 1 = 0 + 1 + j by omega, q3 j (by simp at hlen ⊢; omega) (by rw [k2, hsz]; omega)]
            simp [Nat.add_comm]
        · simp [Value.ownBlock] at hg
          omega

end Go.Proofs.Ytpbbokpmlemboaa
