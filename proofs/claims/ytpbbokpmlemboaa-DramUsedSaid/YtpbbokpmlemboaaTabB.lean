/-
  The table in memory: entries in chains, rows of their heads; what a write to a hook makes of them.
-/
import Derived.Test.YtpbbokpmlemboaaTabA
namespace Go.Proofs.Ytpbbokpmlemboaa.Tb
open Go.RowKit

structure En where
  b : Nat
  key : ByteArray
  v : Int

def hookV : List En → Value
  | [] => .pointer none
  | e :: _ => .pointer (some ⟨e.b, 0, none⟩)
def ChAt (w : World) : List En → Prop
  | [] => True
  | e :: r => w.heap[e.b]? = some (.cells #[.string e.key, .int .i64 e.v, hookV r] 106 (0, 0)) ∧ ChAt w r
def bOf (l : List En) : List Nat := l.map En.b
def hookA (p : Addr) : List En → Addr
  | [] => p
  | e :: r => hookA ⟨e.b, 2, none⟩ r

theorem hookV_one (l : List En) : (hookV l).oneCell' = true := by cases l <;> rfl
theorem hooks_one (l : List (List En)) : ∀ v ∈ l.map hookV, v.oneCell' = true := by
  intro v hv
  obtain ⟨c, _, rfl⟩ := List.mem_map.1 hv
  exact hookV_one c
theorem hookA_block (p : Addr) (l : List En) : (hookA p l).block = p.block ∨ (hookA p l).block ∈ bOf l := by
  induction l generalizing p with
  | nil => exact .inl rfl
  | cons e r ih =>
    rcases ih ⟨e.b, 2, none⟩ with h | h
    · refine .inr ?_
      unfold hookA
      rw [h]
      exact List.mem_cons_self ..
    · exact .inr (List.mem_cons_of_mem _ h)
theorem hookA_form (p : Addr) (l : List En) (h : p.spot = none) : (hookA p l).spot = none := by
  induction l generalizing p with
  | nil => exact h
  | cons e r ih => exact ih _ rfl
theorem ChAt.keep {w w' : World} {S : Nat → Prop} {l : List En} (h : ChAt w l) (f : Fr S w w') (hn : ∀ b, b ∈ bOf l → ¬ S b) : ChAt w' l := by
  induction l with
  | nil => trivial
  | cons e r ih => exact ⟨f.heap h.1 (hn _ (List.mem_cons_self ..)), ih h.2 fun b hb => hn b (List.mem_cons_of_mem _ hb)⟩
theorem ChAt.nob {w w' : World} {l : List En} (h : ChAt w l) (f : Fr Nob w w') : ChAt w' l := h.keep f fun _ _ h => h
theorem ChAt.tail {w : World} {pre rest : List En} (h : ChAt w (pre ++ rest)) : ChAt w rest := by
  induction pre with
  | nil => exact h
  | cons e r ih => exact ih h.2
theorem ChAt.is {w : World} {l : List En} (h : ChAt w l) {b : Nat} (hb : b ∈ bOf l) : ∃ cs, w.heap[b]? = some (.cells cs 106 (0, 0)) := by
  induction l with
  | nil => cases hb
  | cons e r ih =>
    rcases List.mem_cons.1 hb with rfl | hb
    · exact ⟨_, h.1⟩
    · exact ih h.2 hb
theorem ChAt.at_ {w : World} {l : List En} (h : ChAt w l) {e : En} (he : e ∈ l) : ∃ r, w.heap[e.b]? = some (.cells #[.string e.key, .int .i64 e.v, hookV r] 106 (0, 0)) := by
  induction l with
  | nil => cases he
  | cons x r ih =>
    rcases List.mem_cons.1 he with rfl | he
    · exact ⟨_, h.1⟩
    · exact ih h.2 he
theorem hook_cell {w : World} {p : Addr} {pre rest : List En} (h : ChAt w (pre ++ rest)) (hp : w.cell? p = some (hookV (pre ++ rest))) (hf : w.frozen? p = false) :
    w.cell? (hookA p pre) = some (hookV rest) ∧ w.frozen? (hookA p pre) = false := by
  induction pre generalizing p with
  | nil => exact ⟨hp, hf⟩
  | cons e r ih => exact ih h.2 (cell_of_row w e.b 2 _ _ (0, 0) h.1) (frozen_of_row w e.b 2 _ _ h.1)

theorem ent_set2 {w : World} {b : Nat} {k v n u : Value} {t : TypeId} (h : w.heap[b]? = some (.cells #[k, v, n] t (0, 0))) : (w.setCell ⟨b, 2, none⟩ u).heap[b]? = some (.cells #[k, v, u] t (0, 0)) := by
  have := heap_setCell_same w b 2 _ _ u h
  simpa using this
theorem ent_set1 {w : World} {b : Nat} {k v n u : Value} {t : TypeId} (h : w.heap[b]? = some (.cells #[k, v, n] t (0, 0))) : (w.setCell ⟨b, 1, none⟩ u).heap[b]? = some (.cells #[k, u, n] t (0, 0)) := by
  have := heap_setCell_same w b 1 _ _ u h
  simpa using this

/-- A write to the hook behind an entry of a chain. -/
theorem ChAt.hook {w : World} {p : Addr} {pre rest rest' : List En} (h : ChAt w (pre ++ rest)) (hr : ChAt (w.setCell (hookA p pre) (hookV rest')) rest') (hn : (bOf pre).Nodup) (hp : p.block ∉ bOf pre) :
    ChAt (w.setCell (hookA p pre) (hookV rest')) (pre ++ rest') := by
  induction pre generalizing p with
  | nil => exact hr
  | cons e r ih =>
    have hn2 := List.nodup_cons.1 hn
    have ih2 := ih (p := ⟨e.b, 2, none⟩) h.2 hr hn2.2 hn2.1
    refine ⟨?_, ih2⟩
    show (w.setCell (hookA ⟨e.b, 2, none⟩ r) (hookV rest')).heap[e.b]? = _
    cases r with
    | nil =>
      exact ent_set2 h.1
    | cons x r =>
      have : (hookA ⟨e.b, 2, none⟩ (x :: r)).block ≠ e.b := by
        intro hh
        have hx : (hookA ⟨e.b, 2, none⟩ (x :: r)).block ∈ bOf (x :: r) := by
          rcases hookA_block ⟨x.b, 2, none⟩ r with h1 | h1
          · show (hookA ⟨x.b, 2, none⟩ r).block ∈ _
            rw [h1]
            exact List.mem_cons_self ..
          · exact List.mem_cons_of_mem _ h1
        rw [hh] at hx
        exact hn2.1 hx
      rw [Below.heap_setCell _ _ _ _ fun e1 => this e1.symm]
      exact h.1

structure Body (w : World) (W gn go : Nat) (now old : List (List En)) (nrow orow : List Value) : Prop where
  nw : w.ownsRow W 102 1 (.slice (some ⟨gn, 0, none⟩) now.length now.length) now.length nrow
  od : old ≠ [] → w.ownsRow W 102 1 (.slice (some ⟨go, 0, none⟩) old.length old.length) old.length orow
  ne : old ≠ [] → gn ≠ go
  chn : ∀ c, c ∈ now → ChAt w c
  cho : ∀ c, c ∈ old → ChAt w c
  nd : (bOf (now.flatten ++ old.flatten)).Nodup
  lo : ∀ b, b ∈ bOf (now.flatten ++ old.flatten) → W ≤ b

section
variable {w w' : World} {W gn go : Nat} {now old : List (List En)} {nrow orow : List Value}

theorem row_is {w : World} {base n cap g size : Nat} {t : TypeId} {xs : List Value} (h : w.ownsRow base t size (.slice (some ⟨g, 0, none⟩) n cap) n xs) : (∃ cur, w.heap[g]? = some (.cells cur t (0, 0))) ∧ base ≤ g := by
  rcases h.2 with ⟨h1, _⟩ | ⟨g', cap', cur, h1, h2, h3, h4⟩
  · cases h1
  · simp only [Value.slice.injEq, Option.some.injEq, Addr.mk.injEq, and_true] at h1
    obtain ⟨rfl, _⟩ := h1
    exact ⟨⟨cur, h3⟩, h2⟩
theorem row_setg' {w : World} {base n cap g size : Nat} {t : TypeId} {xs : List Value} (h : w.ownsRow base t size (.slice (some ⟨g, 0, none⟩) n cap) n xs) (i : Nat) (u : Value) : (w.setCell ⟨g, i, none⟩ u).ownsRow base t size (.slice (some ⟨g, 0, none⟩) n cap) n (xs.set i u) := by
  refine ⟨by rw [List.length_set]; exact h.1, .inr ?_⟩
  rcases h.2 with ⟨h1, _⟩ | ⟨g', cap', cur, h1, h2, h3, h4, h5, h6, h7⟩
  · cases h1
  · simp only [Value.slice.injEq, Option.some.injEq, Addr.mk.injEq, and_true] at h1
    obtain ⟨rfl, _, rfl⟩ := h1
    refine ⟨g, cap, cur.setIfInBounds i u, rfl, h2, heap_setCell_same w g i _ _ _ h3, h4, h5, by simpa using h6, ?_⟩
    rw [Array.toList_setIfInBounds, List.take_set, h7]
theorem row_at' {w : World} {base n cap g size : Nat} {t : TypeId} {xs : List Value} (h : w.ownsRow base t size (.slice (some ⟨g, 0, none⟩) n cap) n xs) {i : Nat} {v : Value} (hv : xs[i]? = some v) : w.cell? ⟨g, i, none⟩ = some v ∧ w.frozen? ⟨g, i, none⟩ = false := by
  have h0 := h.cells (g := g) rfl i v hv
  rw [Addr.add_lit, Nat.zero_add] at h0
  obtain ⟨⟨cur, h1⟩, _⟩ := row_is h
  exact ⟨h0, frozen_of_row w g i _ _ h1⟩

theorem mem_b {b : Nat} {l : List (List En)} : b ∈ bOf l.flatten ↔ ∃ c, c ∈ l ∧ b ∈ bOf c := by
  unfold bOf
  rw [List.mem_map]
  constructor
  · rintro ⟨e, he, rfl⟩
    obtain ⟨c, hc, hx⟩ := List.mem_flatten.1 he
    exact ⟨c, hc, List.mem_map.2 ⟨e, hx, rfl⟩⟩
  · rintro ⟨c, hc, hb⟩
    obtain ⟨e, he, rfl⟩ := List.mem_map.1 hb
    exact ⟨e, List.mem_flatten.2 ⟨c, hc, he⟩, rfl⟩
theorem bOf_app (a b : List En) : bOf (a ++ b) = bOf a ++ bOf b := List.map_append ..
theorem Body.is (s : Body w W gn go now old nrow orow) {b : Nat} (hb : b ∈ bOf (now.flatten ++ old.flatten)) : ∃ cs, w.heap[b]? = some (.cells cs 106 (0, 0)) := by
  rw [bOf_app, List.mem_append] at hb
  rcases hb with hb | hb
  · obtain ⟨c, hc, h⟩ := mem_b.1 hb
    exact (s.chn c hc).is h
  · obtain ⟨c, hc, h⟩ := mem_b.1 hb
    exact (s.cho c hc).is h
theorem heap_type {w : World} {b b' : Nat} {cs cs' : Array Value} {t t' : TypeId} {f f' : Nat × Nat} (h : w.heap[b]? = some (.cells cs t f)) (h' : w.heap[b']? = some (.cells cs' t' f')) (hne : t ≠ t') : b ≠ b' := by
  rintro rfl
  rw [h] at h'
  injection h' with h'
  injection h' with _ h2
  exact hne h2
theorem Body.gn_not (s : Body w W gn go now old nrow orow) : gn ∉ bOf (now.flatten ++ old.flatten) := by
  intro hb
  obtain ⟨cs, h⟩ := s.is hb
  obtain ⟨⟨cur, h2⟩, _⟩ := row_is s.nw
  exact heap_type h h2 (by decide) rfl
theorem Body.go_not (s : Body w W gn go now old nrow orow) (ho : old ≠ []) : go ∉ bOf (now.flatten ++ old.flatten) := by
  intro hb
  obtain ⟨cs, h⟩ := s.is hb
  obtain ⟨⟨cur, h2⟩, _⟩ := row_is (s.od ho)
  exact heap_type h h2 (by decide) rfl
/-- What the body has: its rows, its entries. -/
def BOwn (gn go : Nat) (now old : List (List En)) : Nat → Prop := fun k => k = gn ∨ (old ≠ [] ∧ k = go) ∨ k ∈ bOf (now.flatten ++ old.flatten)
theorem Body.keep {S : Nat → Prop} (s : Body w W gn go now old nrow orow) (f : Fr S w w') (hn : ∀ k, BOwn gn go now old k → ¬ S k) : Body w' W gn go now old nrow orow where
  nw := f.ownsRow s.nw fun k hk => hn k (.inl (by simpa [Value.ownBlock] using hk.symm))
  od := fun ho => f.ownsRow (s.od ho) fun k hk => hn k (.inr (.inl ⟨ho, by simpa [Value.ownBlock] using hk.symm⟩))
  ne := s.ne
  chn := fun c hc => (s.chn c hc).keep f fun b hb => hn b (.inr (.inr (by rw [bOf_app, List.mem_append]; exact .inl (mem_b.2 ⟨c, hc, hb⟩))))
  cho := fun c hc => (s.cho c hc).keep f fun b hb => hn b (.inr (.inr (by rw [bOf_app, List.mem_append]; exact .inr (mem_b.2 ⟨c, hc, hb⟩))))
  nd := s.nd
  lo := s.lo
theorem Body.lt (s : Body w W gn go now old nrow orow) {k : Nat} (hk : BOwn gn go now old k) : k < w.heap.size := by
  rcases hk with rfl | ⟨ho, rfl⟩ | hk
  · obtain ⟨⟨cur, h2⟩, _⟩ := row_is s.nw
    exact lt_of_block h2
  · obtain ⟨⟨cur, h2⟩, _⟩ := row_is (s.od ho)
    exact lt_of_block h2
  · obtain ⟨cs, h⟩ := s.is hk
    exact lt_of_block h
theorem Body.low (s : Body w W gn go now old nrow orow) {k : Nat} (hk : BOwn gn go now old k) : W ≤ k := by
  rcases hk with rfl | ⟨ho, rfl⟩ | hk
  · exact (row_is s.nw).2
  · exact (row_is (s.od ho)).2
  · exact s.lo k hk

theorem mem_set {α : Type _} {l : List α} {i : Nat} {a x : α} (h : x ∈ l.set i a) : x = a ∨ ∃ j, j ≠ i ∧ l[j]? = some x := by
  obtain ⟨j, hj, rfl⟩ := List.getElem_of_mem h
  rw [List.getElem_set]
  split
  · exact .inl rfl
  next hne => exact .inr ⟨j, fun e => hne e.symm, by rw [List.length_set] at hj; exact List.getElem?_eq_getElem hj⟩
theorem nodup_parts {now old : List (List En)} {i : Nat} {c : List En} (hi : now[i]? = some c) (h : (bOf (now.flatten ++ old.flatten)).Nodup) :
    (bOf c).Nodup ∧ (∀ j d, j ≠ i → now[j]? = some d → ∀ b, b ∈ bOf d → b ∉ bOf c) ∧ ∀ d, d ∈ old → ∀ b, b ∈ bOf d → b ∉ bOf c := by
  induction now generalizing i with
  | nil => cases hi
  | cons a l ih =>
    rw [List.flatten_cons, List.append_assoc, bOf_app] at h
    obtain ⟨h1, h2, h3⟩ := List.nodup_append.1 h
    cases i with
    | zero =>
      simp only [List.getElem?_cons_zero, Option.some.injEq] at hi
      subst hi
      refine ⟨h1, fun j d hj hd b hb hc => ?_, fun d hd b hb hc => ?_⟩
      · cases j with
        | zero => exact hj rfl
        | succ j =>
          rw [List.getElem?_cons_succ] at hd
          exact h3 b hc b (by rw [bOf_app, List.mem_append]; exact .inl (mem_b.2 ⟨d, List.mem_of_getElem? hd, hb⟩)) rfl
      · exact h3 b hc b (by rw [bOf_app, List.mem_append]; exact .inr (mem_b.2 ⟨d, hd, hb⟩)) rfl
    | succ i =>
      rw [List.getElem?_cons_succ] at hi
      obtain ⟨k1, k2, k3⟩ := ih hi h2
      refine ⟨k1, fun j d hj hd b hb hc => ?_, k3⟩
      cases j with
      | zero =>
        simp only [List.getElem?_cons_zero, Option.some.injEq] at hd
        subst hd
        exact h3 b hb b (by rw [bOf_app, List.mem_append]; exact .inl (mem_b.2 ⟨c, List.mem_of_getElem? hi, hc⟩)) rfl
      | succ j =>
        rw [List.getElem?_cons_succ] at hd
        exact k2 j d (by omega) hd b hb hc

/-- A write to a hook of a new chain. -/
theorem Body.hookN (s : Body w W gn go now old (now.map hookV) orow) {i : Nat} {pre rest rest' : List En} (hi : now[i]? = some (pre ++ rest)) (hr : ChAt w rest')
    (nd : (bOf ((now.set i (pre ++ rest')).flatten ++ old.flatten)).Nodup) (lo : ∀ b, b ∈ bOf rest' → W ≤ b) :
    Body (w.setCell (hookA ⟨gn, i, none⟩ pre) (hookV rest')) W gn go (now.set i (pre ++ rest')) old ((now.set i (pre ++ rest')).map hookV) orow := by
  have hlt : i < now.length := (List.getElem?_eq_some_iff.1 hi).1
  have hi' : (now.set i (pre ++ rest'))[i]? = some (pre ++ rest') := by rw [List.getElem?_set_self hlt]
  obtain ⟨n1, n2, n3⟩ := nodup_parts hi s.nd
  obtain ⟨m1, m2, m3⟩ := nodup_parts hi' nd
  have hsub : ∀ c, c ∈ now → ∀ b, b ∈ bOf c → b ≠ gn := fun c hc b hb e => s.gn_not (by rw [← e, bOf_app, List.mem_append]; exact .inl (mem_b.2 ⟨c, hc, hb⟩))
  have hsub2 : ∀ c, c ∈ old → ∀ b, b ∈ bOf c → b ≠ gn := fun c hc b hb e => s.gn_not (by rw [← e, bOf_app, List.mem_append]; exact .inr (mem_b.2 ⟨c, hc, hb⟩))
  have hmem := List.mem_of_getElem? hi
  have hpre : ∀ b, b ∈ bOf pre → b ∈ bOf (pre ++ rest) := fun b hb => by rw [bOf_app, List.mem_append]; exact .inl hb
  have hpre' : ∀ b, b ∈ bOf pre → b ∈ bOf (pre ++ rest') := fun b hb => by rw [bOf_app, List.mem_append]; exact .inl hb
  have hgp : gn ∉ bOf pre := fun h => hsub _ hmem gn (hpre gn h) rfl
  have hB := hookA_block ⟨gn, i, none⟩ pre
  have hsel : ∃ o, hookA ⟨gn, i, none⟩ pre = ⟨(hookA ⟨gn, i, none⟩ pre).block, o, none⟩ := by
    have := hookA_form ⟨gn, i, none⟩ pre rfl
    generalize hookA ⟨gn, i, none⟩ pre = A at this ⊢
    obtain ⟨x, y, z⟩ := A
    cases this
    exact ⟨y, rfl⟩
  have f : Fr (One (hookA ⟨gn, i, none⟩ pre).block) w (w.setCell (hookA ⟨gn, i, none⟩ pre) (hookV rest')) := (Fr.refl (One (hookA ⟨gn, i, none⟩ pre).block) w).setCell (hookA ⟨gn, i, none⟩ pre) (fun _ => rfl) _
  have hcs : (bOf (pre ++ rest')).Nodup := m1
  have hrest : ∀ b, b ∈ bOf rest' → b ∉ bOf pre := fun b hb hb2 => by
    rw [bOf_app] at hcs
    exact (List.nodup_append.1 hcs).2.2 b hb2 b hb rfl
  have hrg : gn ∉ bOf rest' := fun hb => by
    obtain ⟨cs, h⟩ := hr.is hb
    obtain ⟨⟨cur, h2⟩, _⟩ := row_is s.nw
    exact heap_type h h2 (by decide) rfl
  have hr' : ChAt (w.setCell (hookA ⟨gn, i, none⟩ pre) (hookV rest')) rest' := hr.keep f fun b hb e => by
    have e : b = (hookA ⟨gn, i, none⟩ pre).block := e
    rcases hB with h | h
    · rw [h] at e
      rw [show b = gn from e] at hb
      exact hrg hb
    · rw [← e] at h
      exact hrest b hb h
  refine ⟨?_, fun ho => f.ownsRow (s.od ho) ?_, s.ne, ?_, ?_, nd, ?_⟩
  · rw [List.length_set, List.map_set]
    cases pre with
    | nil =>
      rw [List.nil_append]
      exact row_setg' s.nw i _
    | cons e r =>
      have hb : (hookA ⟨gn, i, none⟩ (e :: r)).block ∈ bOf (e :: r) := by
        rcases hookA_block ⟨e.b, 2, none⟩ r with h1 | h1
        · show (hookA ⟨e.b, 2, none⟩ r).block ∈ _
          rw [h1]
          exact List.mem_cons_self ..
        · exact List.mem_cons_of_mem _ h1
      have hh : (now.map hookV).set i (hookV (e :: r ++ rest')) = now.map hookV := by
        apply List.ext_getElem?
        intro j
        rw [List.getElem?_set]
        split
        next hij =>
          subst hij
          rw [if_pos (by rw [List.length_map]; exact hlt), List.getElem?_map, hi]
          rfl
        · rfl
      rw [hh]
      exact f.ownsRow s.nw fun k hk e1 => by
        have h1 : gn = k := by simpa [Value.ownBlock] using hk
        have h2 : k = _ := e1
        rw [← h2, ← h1] at hb
        exact hgp hb
  · intro k hk e1
    have h1 : go = k := by simpa [Value.ownBlock] using hk
    have h2 : k = (hookA ⟨gn, i, none⟩ pre).block := e1
    rcases hB with h | h
    · exact s.ne ho (by rw [h1, h2, h])
    · rw [← h2, ← h1] at h
      exact s.go_not ho (by rw [bOf_app, List.mem_append]; exact .inl (mem_b.2 ⟨_, hmem, hpre _ h⟩))
  · intro c hc
    rcases mem_set hc with rfl | ⟨j, hj, hc2⟩
    · exact (s.chn _ hmem).hook hr' (by rw [bOf_app] at n1; exact (List.nodup_append.1 n1).1) hgp
    · refine (s.chn c (List.mem_of_getElem? hc2)).keep f fun b hb e1 => ?_
      have h2 : b = (hookA ⟨gn, i, none⟩ pre).block := e1
      rcases hB with h | h
      · exact hsub c (List.mem_of_getElem? hc2) b hb (by rw [h2, h])
      · rw [← h2] at h
        exact n2 j c hj hc2 b hb (hpre b h)
  · intro c hc
    refine (s.cho c hc).keep f fun b hb e1 => ?_
    have h2 : b = (hookA ⟨gn, i, none⟩ pre).block := e1
    rcases hB with h | h
    · exact hsub2 c hc b hb (by rw [h2, h])
    · rw [← h2] at h
      exact n3 c hc b hb (hpre b h)
  · intro b hb
    rw [bOf_app, List.mem_append] at hb
    rcases hb with hb | hb
    · obtain ⟨c, hc, hb⟩ := mem_b.1 hb
      rcases mem_set hc with rfl | ⟨j, hj, hc2⟩
      · rw [bOf_app, List.mem_append] at hb
        rcases hb with hb | hb
        · exact s.lo b (by rw [bOf_app, List.mem_append]; exact .inl (mem_b.2 ⟨_, hmem, hpre b hb⟩))
        · exact lo b hb
      · exact s.lo b (by rw [bOf_app, List.mem_append]; exact .inl (mem_b.2 ⟨_, List.mem_of_getElem? hc2, hb⟩))
    · exact s.lo b (by rw [bOf_app, List.mem_append]; exact .inr hb)
/-- The two rows, told the other way about. -/
theorem Body.swap (s : Body w W gn go now old nrow orow) (ho : old ≠ []) : Body w W go gn old now orow nrow where
  nw := s.od ho
  od := fun _ => s.nw
  ne := fun _ e => s.ne ho e.symm
  chn := s.cho
  cho := s.chn
  nd := (List.Perm.map En.b List.perm_append_comm).nodup_iff.1 s.nd
  lo := fun b hb => s.lo b ((List.Perm.map En.b List.perm_append_comm).mem_iff.1 hb)
end
end Go.Proofs.Ytpbbokpmlemboaa.Tb
