/-
  dram: how the cache lies in memory; what a change of one of its parts leaves of the others.
-/
import Derived.Test.YtpbbokpmlemboaaDrR
import Derived.Test.YtpbbokpmlemboaaMapOps
import Derived.Test.YtpbbokpmlemboaaSegL
namespace Go.Proofs.Ytpbbokpmlemboaa
open Go.RowKit Sl

abbrev outV (o : Ou) : Value := .agg #[.string o.1.key, .string o.1.val, .int .u32 o.1.flags, .int .i64 o.1.exp, .int .u64 o.1.ver, .bool o.2]

/-- Where the parts lie: the cache, the slab and its pages, the table (its blocks are not below W), the map, the lists of use. -/
structure DP where
  c : Nat
  p : Nat
  b : Nat
  t : Nat
  W : Nat
  r : Nat
  q : Nat → Nat

def ptr (b : Nat) : Value := .pointer (some ⟨b, 0, none⟩)

/-- The cache; O j are the blocks of its part j: 0 itself, 1 the table, 2 the slab, 3 the map, 4 + i the list of use i. -/
structure DrIn (w : World) (P : DP) (O : Nat → Nat → Prop) (C : DC) : Prop where
  top : w.heap[P.c]? = some (.cells #[ptr P.p, ptr P.t, ptr (P.q 0), ptr (P.q 1), ptr (P.q 2), ptr (P.q 3), ptr (P.q 4), ptr (P.q 5), .map (some P.r)] 64 (0, 0))
  slab : SlabAt w P.p P.b C.S
  tab : Tb.TabIn w P.W P.t (O 1) C.T
  seg : ∀ i, i < 6 → SegAt w (P.q i) (O (4 + i)) (C.G i)
  map : MapIs (Value.int .i64) outV w P.r C.M
  o0 : ∀ k, O 0 k ↔ k = P.c
  o2 : ∀ k, O 2 k ↔ k = P.p ∨ k = P.b
  o3 : ∀ k, O 3 k ↔ k = P.r
  dis : ∀ i j k, i < 10 → j < 10 → O i k → O j k → i = j

def UO (O : Nat → Nat → Prop) (k : Nat) : Prop := ∃ i, i < 10 ∧ O i k

def DrTo (w : World) (P : DP) (O : Nat → Nat → Prop) (w' : World) (C' : DC) : Prop := ∃ O', DrIn w' P O' C' ∧ Fr (UO O) w w' ∧ ∀ k, UO O' k → UO O k ∨ w.heap.size ≤ k

section
variable {w w' : World} {P : DP} {O : Nat → Nat → Prop} {C : DC}

theorem DrIn.lt (h : DrIn w P O C) {i k : Nat} (hi : i < 10) (hk : O i k) : k < w.heap.size := by
  match i, hi with
  | 0, _ => rw [(h.o0 k).1 hk]; exact lt_of_block h.top
  | 1, _ => exact h.tab.lt k hk
  | 2, _ =>
    rcases (h.o2 k).1 hk with rfl | rfl
    · exact lt_of_block h.slab.hd
    · obtain ⟨cur, h1, _⟩ := h.slab.row
      exact lt_of_block h1
  | 3, _ => rw [(h.o3 k).1 hk]; exact h.map.lt
  | j + 4, hj => exact (h.seg j (by omega)).lt k (by rw [Nat.add_comm 4 j]; exact hk)

theorem DrIn.off (h : DrIn w P O C) {i j k : Nat} (hi : i < 10) (hj : j < 10) (hne : i ≠ j) (hk : O i k) : ¬ O j k := fun h2 => hne (h.dis i j k hi hj hk h2)

/-- The part j is turned: its blocks are O' now. -/
def updO (O : Nat → Nat → Prop) (j : Nat) (Q : Nat → Prop) : Nat → Nat → Prop := fun i => if i = j then Q else O i
theorem updO_at (O : Nat → Nat → Prop) (j : Nat) (Q : Nat → Prop) : updO O j Q j = Q := if_pos rfl
theorem updO_ne {O : Nat → Nat → Prop} {i j : Nat} {Q : Nat → Prop} (h : i ≠ j) : updO O j Q i = O i := if_neg h
theorem updO_dis (h : DrIn w P O C) {j : Nat} (hj : j < 10) {Q : Nat → Prop} (hq : ∀ k, Q k → O j k ∨ w.heap.size ≤ k) : ∀ a b k, a < 10 → b < 10 → updO O j Q a k → updO O j Q b k → a = b := by
  have one : ∀ a k, a < 10 → a ≠ j → O a k → Q k → False := fun a k ha hne h1 h2 => by
    rcases hq k h2 with h3 | h3
    · exact hne (h.dis a j k ha hj h1 h3)
    · have := h.lt ha h1
      omega
  intro a b k ha hb h1 h2
  by_cases ea : a = j
  · by_cases eb : b = j
    · rw [ea, eb]
    · rw [ea, updO_at] at h1
      rw [updO_ne eb] at h2
      exact (one b k hb eb h2 h1).elim
  · rw [updO_ne ea] at h1
    by_cases eb : b = j
    · rw [eb, updO_at] at h2
      exact (one a k ha ea h1 h2).elim
    · rw [updO_ne eb] at h2
      exact h.dis a b k ha hb h1 h2
theorem updO_sub {j : Nat} {Q : Nat → Prop} {n : Nat} (hj : j < 10) (hq : ∀ k, Q k → O j k ∨ n ≤ k) : ∀ k, UO (updO O j Q) k → UO O k ∨ n ≤ k := by
  rintro k ⟨i, hi, hk⟩
  by_cases e : i = j
  · subst e
    rw [updO_at] at hk
    rcases hq k hk with h | h
    · exact .inl ⟨i, hj, h⟩
    · exact .inr h
  · rw [updO_ne e] at hk
    exact .inl ⟨i, hi, hk⟩

theorem DrTo.refl (h : DrIn w P O C) : DrTo w P O w C := ⟨O, h, Fr.refl _ _, fun _ h => .inl h⟩
theorem DrTo.go {O1 : Nat → Nat → Prop} {w1 w2 : World} {C2 : DC} (f : Fr (UO O) w w1) (h : ∀ k, UO O1 k → UO O k ∨ w.heap.size ≤ k) (g : DrTo w1 P O1 w2 C2) : DrTo w P O w2 C2 := by
  obtain ⟨O2, s2, f2, h2⟩ := g
  refine ⟨O2, s2, f.trans f2 fun k hk h1 => (h k h1).elim id fun h => by omega, fun k hk => ?_⟩
  rcases h2 k hk with h3 | h3
  · exact h k h3
  · exact .inr (Nat.le_trans f.size h3)

theorem DrIn.keep {X : Nat → Prop} (h : DrIn w P O C) (f : Fr X w w') (hX : ∀ k, UO O k → ¬ X k) : DrIn w' P O C :=
  ⟨f.heap h.top (hX _ ⟨0, by omega, (h.o0 _).2 rfl⟩), h.slab.keep f (hX _ ⟨2, by omega, (h.o2 _).2 (.inl rfl)⟩) (hX _ ⟨2, by omega, (h.o2 _).2 (.inr rfl)⟩),
    h.tab.keep f fun k hk => hX k ⟨1, by omega, hk⟩, fun i hi => (h.seg i hi).keep f fun k hk => hX k ⟨4 + i, by omega, hk⟩, h.map.keep f (hX _ ⟨3, by omega, (h.o3 _).2 rfl⟩), h.o0, h.o2, h.o3, h.dis⟩
theorem DrIn.nob (h : DrIn w P O C) (f : Fr Nob w w') : DrIn w' P O C := h.keep f fun _ _ h => h
theorem DrTo.plus {C' : DC} {w'' : World} (g : DrTo w P O w' C') (f : Fr Nob w' w'') : DrTo w P O w'' C' := by
  obtain ⟨O', h, f', hs⟩ := g
  exact ⟨O', h.nob f, f'.trans f fun _ _ h => h.elim, hs⟩
theorem DrTo.ahead {C' : DC} {w0 : World} (f : Fr Nob w0 w) (g : DrTo w P O w' C') : DrTo w0 P O w' C' := by
  obtain ⟨O', h, f', hs⟩ := g
  exact ⟨O', h, f.nob.trans f' fun k hk h => h, fun k hk => (hs k hk).elim .inl fun h => .inr (Nat.le_trans f.size h)⟩

/-- The table is turned. -/
theorem DrIn.tabTo (h : DrIn w P O C) {T' : Tb.KT} (g : Tb.TabTo w P.W P.t (O 1) w' T') : DrTo w P O w' ⟨C.S, T', C.G, C.M⟩ := by
  obtain ⟨Q, s, f, hq⟩ := g
  have no : ∀ {i k : Nat}, i < 10 → i ≠ 1 → O i k → ¬ O 1 k := fun hi hne hk => h.off hi (by omega) hne hk
  refine ⟨updO O 1 Q, ⟨f.heap h.top (no (i := 0) (by omega) (by omega) ((h.o0 _).2 rfl)), h.slab.keep f (no (i := 2) (by omega) (by omega) ((h.o2 _).2 (.inl rfl))) (no (i := 2) (by omega) (by omega) ((h.o2 _).2 (.inr rfl))), ?_, fun i hi => ?_, h.map.keep f (no (i := 3) (by omega) (by omega) ((h.o3 _).2 rfl)), h.o0, h.o2, h.o3, updO_dis h (by omega) hq⟩, f.mono fun k _ hk => ⟨1, by omega, hk⟩, updO_sub (by omega) hq⟩
  · rw [updO_at]; exact s
  · rw [updO_ne (by omega)]
    exact (h.seg i hi).keep f fun k hk => no (i := 4 + i) (by omega) (by omega) hk
theorem DrIn.slabIn (h : DrIn w P O C) {S' : List Pg} (s : SlabAt w' P.p P.b S') (f : Fr (One P.b) w w') : DrIn w' P O ⟨S', C.T, C.G, C.M⟩ := by
  have hb := (h.o2 P.b).2 (.inr rfl)
  have no : ∀ {i k : Nat}, i < 10 → i ≠ 2 → O i k → ¬ One P.b k := fun hi hne hk e => h.off hi (by omega) hne hk (by rw [show _ = P.b from e]; exact hb)
  exact ⟨f.heap h.top (no (i := 0) (by omega) (by omega) ((h.o0 _).2 rfl)), s, h.tab.keep f fun k hk => no (i := 1) (by omega) (by omega) hk, fun i hi => (h.seg i hi).keep f fun k hk => no (i := 4 + i) (by omega) (by omega) hk,
    h.map.keep f (no (i := 3) (by omega) (by omega) ((h.o3 _).2 rfl)), h.o0, h.o2, h.o3, h.dis⟩
theorem DrIn.slabU (h : DrIn w P O C) : ∀ k, One P.b k → UO O k := fun k hk => ⟨2, by omega, by rw [show k = P.b from hk]; exact (h.o2 P.b).2 (.inr rfl)⟩
theorem DrIn.mapIn (h : DrIn w P O C) {M' : List (Int × Ou)} (s : MapIs (Value.int .i64) outV w' P.r M') (f : Fr (One P.r) w w') : DrIn w' P O ⟨C.S, C.T, C.G, M'⟩ := by
  have hb := (h.o3 P.r).2 rfl
  have no : ∀ {i k : Nat}, i < 10 → i ≠ 3 → O i k → ¬ One P.r k := fun hi hne hk e => h.off hi (by omega) hne hk (by rw [show _ = P.r from e]; exact hb)
  exact ⟨f.heap h.top (no (i := 0) (by omega) (by omega) ((h.o0 _).2 rfl)), h.slab.keep f (no (i := 2) (by omega) (by omega) ((h.o2 _).2 (.inl rfl))) (no (i := 2) (by omega) (by omega) ((h.o2 _).2 (.inr rfl))), h.tab.keep f fun k hk => no (i := 1) (by omega) (by omega) hk, fun i hi => (h.seg i hi).keep f fun k hk => no (i := 4 + i) (by omega) (by omega) hk,
    s, h.o0, h.o2, h.o3, h.dis⟩
theorem DrIn.mapU (h : DrIn w P O C) : ∀ k, One P.r k → UO O k := fun k hk => ⟨3, by omega, by rw [show k = P.r from hk]; exact (h.o3 P.r).2 rfl⟩
/-- A block that is no part of the cache. -/
theorem DrIn.ltU (h : DrIn w P O C) {k : Nat} (hk : UO O k) : k < w.heap.size := by
  obtain ⟨i, hi, hk⟩ := hk
  exact h.lt hi hk
theorem DrIn.segTo (h : DrIn w P O C) {i : Nat} (hi : i < 6) {S' : Sg} (g : SegTo w (P.q i) (O (4 + i)) w' S') : DrTo w P O w' ⟨C.S, C.T, upG C.G i S', C.M⟩ := by
  obtain ⟨Q, s, f, hq⟩ := g
  have no : ∀ {j k : Nat}, j < 10 → j ≠ 4 + i → O j k → ¬ O (4 + i) k := fun hj hne hk => h.off hj (by omega) hne hk
  refine ⟨updO O (4 + i) Q, ⟨f.heap h.top (no (j := 0) (by omega) (by omega) ((h.o0 _).2 rfl)), h.slab.keep f (no (j := 2) (by omega) (by omega) ((h.o2 _).2 (.inl rfl))) (no (j := 2) (by omega) (by omega) ((h.o2 _).2 (.inr rfl))), ?_, fun j hj => ?_, h.map.keep f (no (j := 3) (by omega) (by omega) ((h.o3 _).2 rfl)), ?_, ?_, ?_, updO_dis h (by omega) hq⟩, f.mono fun k _ hk => ⟨4 + i, by omega, hk⟩, updO_sub (by omega) hq⟩
  · rw [updO_ne (by omega)]
    exact h.tab.keep f fun k hk => no (j := 1) (by omega) (by omega) hk
  · show SegAt w' (P.q j) (updO O (4 + i) Q (4 + j)) (upG C.G i S' j)
    by_cases e : j = i
    · subst e
      rw [updO_at, upG_at]
      exact s
    · rw [updO_ne (by omega), upG_ne e]
      exact (h.seg j hj).keep f fun k hk => no (j := 4 + j) (by omega) (by omega) hk
  · rw [updO_ne (by omega)]; exact h.o0
  · rw [updO_ne (by omega)]; exact h.o2
  · rw [updO_ne (by omega)]; exact h.o3

theorem DrIn.cells (h : DrIn w P O C) : w.cell? ⟨P.c, 0, none⟩ = some (.pointer (some ⟨P.p, 0, none⟩)) ∧ w.cell? ⟨P.c, 1, none⟩ = some (.pointer (some ⟨P.t, 0, none⟩)) ∧ (∀ i, i < 6 → w.cell? ⟨P.c, 2 + i, none⟩ = some (.pointer (some ⟨P.q i, 0, none⟩))) ∧ w.cell? ⟨P.c, 8, none⟩ = some (.map (some P.r)) := by
  have g := fun j => cell_of_row w P.c j _ _ (0, 0) h.top
  refine ⟨g 0, g 1, fun i hi => ?_, g 8⟩
  match i, hi with
  | 0, _ => exact g 2
  | 1, _ => exact g 3
  | 2, _ => exact g 4
  | 3, _ => exact g 5
  | 4, _ => exact g 6
  | 5, _ => exact g 7
end

/-- Bounds of what can be there. -/
theorem pages_us (S : List Pg) (h : ∀ q, q ∈ S → q.ok) : usSum S ≤ 64 * S.length := by
  have := (sumBy_bd (f := Pg.us) (fun q hq => hq.us) S h).2
  exact this
theorem DC.OkBut.few {C : DC} {x0 : Option Int} (h : C.OkBut x0) : C.M.length ≤ 64 * C.S.length := by
  have := pages_us C.S h.pg
  have := h.sum
  omega
theorem nodup_len' : ∀ (l k : List Int), l.Nodup → (∀ x, x ∈ l → x ∈ k) → l.length ≤ k.length
  | [], _, _, _ => Nat.zero_le _
  | x :: l, k, hn, hs => by
    rw [List.nodup_cons] at hn
    have hx := hs x (by simp)
    have h1 := nodup_len' l (k.erase x) hn.2 fun y hy => (List.mem_erase_of_ne fun e => hn.1 (by rw [← e]; exact hy)).2 (hs y (by simp [hy]))
    rw [List.length_erase_of_mem hx] at h1
    have h2 : 0 < k.length := List.length_pos_of_mem hx
    rw [List.length_cons]
    omega
theorem DC.OkBut.tot {C : DC} {x0 : Option Int} (h : C.OkBut x0) {i : Nat} (hi : i < 6) : (C.G i).tot ≤ C.M.length := by
  have h1 := nodup_len' (keysM (C.G i).I) (keysM C.M) (h.sg i hi).kI fun x hx => by
    have h2 : (getM (C.G i).I x).isSome = true := getM_isSome.2 hx
    have h3 := h.tak x
    rw [((h.seg i x hi).1 h2).1] at h3
    exact getM_isSome.1 h3
  have h2 : (keysM (C.G i).I).length = (C.G i).I.length := List.length_map ..
  have h3 : (keysM C.M).length = C.M.length := List.length_map ..
  have := (h.sg i hi).len
  omega
end Go.Proofs.Ytpbbokpmlemboaa
