/-
  seg: how its memory lies, and what New, Len, pop, push do to it.
-/
import Derived.Test.YtpbbokpmlemboaaMapOps
import Derived.Test.YtpbbokpmlemboaaIntRows
namespace Go.Proofs.Ytpbbokpmlemboaa
open Go.RowKit

/-- The three lists, the head first; which are marked as used; the list that each stands in. -/
structure Sg where
  h : List Int
  m : List Int
  c : List Int
  U : List (Int × Bool)
  I : List (Int × Int)

def Sg.get (S : Sg) : Nat → List Int
  | 0 => S.h
  | 1 => S.m
  | _ => S.c
def Sg.set (S : Sg) (t : Nat) (l : List Int) : Sg :=
  match t with
  | 0 => { S with h := l }
  | 1 => { S with m := l }
  | _ => { S with c := l }
theorem Sg.get_set (S : Sg) {t : Nat} (ht : t < 3) (l : List Int) (k : Nat) (hk : k < 3) : (S.set t l).get k = if k = t then l else S.get k := by
  match t, k with
  | 0, 0 => rfl
  | 0, 1 => rfl
  | 0, 2 => rfl
  | 1, 0 => rfl
  | 1, 1 => rfl
  | 1, 2 => rfl
  | 2, 0 => rfl
  | 2, 1 => rfl
  | 2, 2 => rfl
  | t + 3, _ => omega
  | _, k + 3 => omega
theorem Sg.set_U (S : Sg) (t : Nat) (l : List Int) : (S.set t l).U = S.U := by
  match t with
  | 0 => rfl
  | 1 => rfl
  | t + 2 => rfl
theorem Sg.set_I (S : Sg) (t : Nat) (l : List Int) : (S.set t l).I = S.I := by
  match t with
  | 0 => rfl
  | 1 => rfl
  | t + 2 => rfl

/-- The blocks of a Seg at p, whose lists lie in V and whose maps in ru and ri. -/
def SegOwn (p ru ri : Nat) (V : Nat → Value) : Nat → Prop := fun k => k = p ∨ k = ru ∨ k = ri ∨ ∃ t, t < 3 ∧ (V t).ownBlock = some k

structure SegIn (w : World) (p ru ri : Nat) (V : Nat → Value) (S : Sg) : Prop where
  top : w.heap[p]? = some (.cells #[V 0, V 1, V 2, .map (some ru), .map (some ri)] 98 (0, 0))
  rows : ∀ t, t < 3 → w.ownsRow 0 3 1 (V t) (S.get t).length (ints (S.get t))
  used : MapIs (Value.int .i64) Value.bool w ru S.U
  inn : MapIs (Value.int .i64) (Value.int .i64) w ri S.I
  sep : ∀ t g, t < 3 → (V t).ownBlock = some g → g ≠ p ∧ g ≠ ru ∧ g ≠ ri
  two : ∀ s t g, s < 3 → t < 3 → s ≠ t → (V s).ownBlock = some g → (V t).ownBlock ≠ some g
  ui : ru ≠ ri
  pu : p ≠ ru
  pi : p ≠ ri

/-- A Seg at p that holds S; its blocks are those of K. -/
def SegAt (w : World) (p : Nat) (K : Nat → Prop) (S : Sg) : Prop := ∃ ru ri V, SegIn w p ru ri V S ∧ ∀ k, K k ↔ SegOwn p ru ri V k

theorem SegIn.cells {w : World} {p ru ri : Nat} {V : Nat → Value} {S : Sg} (s : SegIn w p ru ri V S) :
    w.cell? ⟨p, 0, none⟩ = some (V 0) ∧ w.cell? ⟨p, 1, none⟩ = some (V 1) ∧ w.cell? ⟨p, 2, none⟩ = some (V 2) ∧ w.cell? ⟨p, 3, none⟩ = some (.map (some ru)) ∧ w.cell? ⟨p, 4, none⟩ = some (.map (some ri)) ∧
      (∀ t, t < 3 → w.cell? ⟨p, t, none⟩ = some (V t)) ∧ ∀ j, w.frozen? ⟨p, j, none⟩ = false := by
  have h := fun j => cell_of_row w p j _ _ (0, 0) s.top
  refine ⟨h 0, h 1, h 2, h 3, h 4, fun t ht => ?_, fun j => frozen_of_row w p j _ _ s.top⟩
  match t with
  | 0 => exact h 0
  | 1 => exact h 1
  | 2 => exact h 2
  | t + 3 => omega

theorem SegIn.keep {w w' : World} {p ru ri : Nat} {V : Nat → Value} {S : Sg} {T : Nat → Prop} (s : SegIn w p ru ri V S) (f : Fr T w w') (hT : ∀ k, SegOwn p ru ri V k → ¬ T k) : SegIn w' p ru ri V S where
  top := f.heap s.top (hT p (.inl rfl))
  rows := fun t ht => f.ownsRow (s.rows t ht) fun k hk => hT k (.inr (.inr (.inr ⟨t, ht, hk⟩)))
  used := s.used.keep f (hT ru (.inr (.inl rfl)))
  inn := s.inn.keep f (hT ri (.inr (.inr (.inl rfl))))
  sep := s.sep
  two := s.two
  ui := s.ui
  pu := s.pu
  pi := s.pi

theorem SegAt.keep {w w' : World} {p : Nat} {K T : Nat → Prop} {S : Sg} (s : SegAt w p K S) (f : Fr T w w') (hT : ∀ k, K k → ¬ T k) : SegAt w' p K S := by
  obtain ⟨ru, ri, V, s, hK⟩ := s
  exact ⟨ru, ri, V, s.keep f fun k hk => hT k ((hK k).2 hk), hK⟩

theorem SegIn.lt {w : World} {p ru ri : Nat} {V : Nat → Value} {S : Sg} (s : SegIn w p ru ri V S) : ∀ k, SegOwn p ru ri V k → k < w.heap.size := by
  rintro k (rfl | rfl | rfl | ⟨t, ht, hk⟩)
  · exact lt_of_block s.top
  · exact s.used.lt
  · exact s.inn.lt
  · exact ((s.rows t ht).lt k hk).2

theorem SegIn.drew {w : World} {p ru ri : Nat} {V : Nat → Value} {S : Sg} (s : SegIn w p ru ri V S) : SegIn w.drew p ru ri V S := s.keep (T := Nob) (Fr.refl _ _).drew fun _ _ h => h

theorem SegAt.lt {w : World} {p : Nat} {K : Nat → Prop} {S : Sg} (s : SegAt w p K S) : ∀ k, K k → k < w.heap.size := by
  obtain ⟨ru, ri, V, s, hK⟩ := s
  exact fun k hk => s.lt k ((hK k).1 hk)

theorem SegAt.drew {w : World} {p : Nat} {K : Nat → Prop} {S : Sg} (s : SegAt w p K S) : SegAt w.drew p K S := s.keep (T := Nob) (Fr.refl _ _).drew fun _ _ h => h

/-- The lists' cells turned. -/
def vset (V : Nat → Value) (t : Nat) (v : Value) : Nat → Value := fun k => if k = t then v else V k

/-- One list's row, and its slice, are others now; the rest is as it was. -/
theorem SegIn.turn {w w' : World} {p ru ri : Nat} {V : Nat → Value} {S : Sg} (s : SegIn w p ru ri V S) {t : Nat} (ht : t < 3) {v : Value} {l : List Int} {T : Nat → Prop} (f : Fr T w w') (hT : ∀ k, T k → k < w.heap.size → some k = (V t).ownBlock)
    (ho : w'.ownsRow 0 3 1 v l.length (ints l)) (hv : ∀ g, v.ownBlock = some g → (V t).ownBlock = some g ∨ w.heap.size ≤ g) : SegIn (w'.setCell ⟨p, t, none⟩ v) p ru ri (vset V t v) (S.set t l) := by
  have hnp : ¬ T p := fun h => (s.sep t p ht (hT p h (lt_of_block s.top)).symm).1 rfl
  have htop := f.heap s.top hnp
  have hvp : ∀ g, v.ownBlock = some g → g ≠ p ∧ g ≠ ru ∧ g ≠ ri := fun g hg => by
    rcases hv g hg with h | h
    · exact s.sep t g ht h
    · exact ⟨fun e => by have := lt_of_block s.top; omega, fun e => by have := s.used.lt; omega, fun e => by have := s.inn.lt; omega⟩
  have f1 : Fr (One p) w' (w'.setCell ⟨p, t, none⟩ v) := (Fr.refl _ _).set1 v
  refine ⟨?_, fun k hk => ?_, ?_, ?_, fun k g hk hg => ?_, fun a b g ha hb hab hg hg2 => ?_, s.ui, s.pu, s.pi⟩
  · rw [heap_setCell_same w' p t _ _ v htop]
    match t with
    | 0 => rfl
    | 1 => rfl
    | 2 => rfl
    | t + 3 => omega
  · rw [S.get_set ht l k hk]
    unfold vset
    by_cases e : k = t
    · rw [if_pos e, if_pos e]
      exact f1.ownsRow ho fun g hg h => (hvp g hg).1 h
    · rw [if_neg e, if_neg e]
      refine f1.ownsRow (f.ownsRow (s.rows k hk) fun g hg h => ?_) fun g hg h => (s.sep k g hk hg).1 h
      exact s.two k t g hk ht e hg (hT g h ((s.rows k hk).lt g hg).2).symm
  · rw [S.set_U]
    refine (s.used.keep f fun h => ?_).keep f1 fun h => s.pu h.symm
    exact (s.sep t ru ht (hT ru h s.used.lt).symm).2.1 rfl
  · rw [S.set_I]
    refine (s.inn.keep f fun h => ?_).keep f1 fun h => s.pi h.symm
    exact (s.sep t ri ht (hT ri h s.inn.lt).symm).2.2 rfl
  · unfold vset at hg
    by_cases e : k = t
    · rw [if_pos e] at hg
      exact hvp g hg
    · rw [if_neg e] at hg
      exact s.sep k g hk hg
  · unfold vset at hg hg2
    by_cases ea : a = t
    · subst ea
      rw [if_pos rfl] at hg
      rw [if_neg (fun e => hab e.symm)] at hg2
      rcases hv g hg with h | h
      · exact s.two a b g ha hb hab h hg2
      · have := ((s.rows b hb).lt g hg2).2
        omega
    · rw [if_neg ea] at hg
      by_cases eb : b = t
      · subst eb
        rw [if_pos rfl] at hg2
        rcases hv g hg2 with h | h
        · exact s.two a b g ha hb hab hg h
        · have := ((s.rows a ha).lt g hg).2
          omega
      · rw [if_neg eb] at hg2
        exact s.two a b g ha hb hab hg hg2

theorem own_turn {p ru ri : Nat} {V : Nat → Value} {t : Nat} {v : Value} (h : v.ownBlock = (V t).ownBlock) {k : Nat} : SegOwn p ru ri V k ↔ SegOwn p ru ri (vset V t v) k := by
  have : ∀ j, (vset V t v j).ownBlock = (V j).ownBlock := fun j => by
    unfold vset
    split
    · rename_i e
      rw [e, h]
    · rfl
  unfold SegOwn
  simp only [this]

/-- The maps are others now. -/
theorem SegIn.remap {w w' : World} {p ru ri : Nat} {V : Nat → Value} {S : Sg} (s : SegIn w p ru ri V S) (f : Fr (fun k => k = ru ∨ k = ri) w w') {U : List (Int × Bool)} {I : List (Int × Int)} (hu : MapIs (Value.int .i64) Value.bool w' ru U) (hi : MapIs (Value.int .i64) (Value.int .i64) w' ri I) :
    SegIn w' p ru ri V { S with U := U, I := I } where
  top := f.heap s.top fun h => h.elim (fun e => s.pu e) fun e => s.pi e
  rows := fun t ht => by
    have : ({ S with U := U, I := I } : Sg).get t = S.get t := by
      match t with
      | 0 => rfl
      | 1 => rfl
      | t + 2 => rfl
    rw [this]
    exact f.ownsRow (s.rows t ht) fun k hk h => h.elim (s.sep t k ht hk).2.1 (s.sep t k ht hk).2.2
  used := hu
  inn := hi
  sep := s.sep
  two := s.two
  ui := s.ui
  pu := s.pu
  pi := s.pi

def Sg.popd (S : Sg) (t : Nat) : Sg := S.set t (S.get t).dropLast

theorem pop_eq {w : World} {p : Nat} {K : Nat → Prop} {S : Sg} (s : SegAt w p K S) {t : Nat} (ht : t < 3) {x : Int} {l : List Int} (hl : S.get t = l ++ [x]) (hn : l.length ≤ 1000000) :
    Calls Try.prog 57 #[.pointer (some ⟨p, 0, none⟩), .int .i64 t] w fun e w' => e = .returned (.int .i64 x) ∧ SegAt w' p K (S.set t l) ∧ Fr K w w' := by
  obtain ⟨ru, ri, V, s, hK⟩ := s
  obtain ⟨c0, c1, c2, c3, c4, ct, fz⟩ := s.cells
  have ctt := ct t ht
  have fzt := fz t
  have hrow := s.rows t ht
  rcases hrow.2 with ⟨_, h0⟩ | ⟨g, cap, cur, hv, _⟩
  · rw [hl] at h0
    simp at h0
  rw [hv, hl] at hrow
  have hln : (l ++ [x]).length = l.length + 1 := by simp
  rw [hln] at hrow
  obtain ⟨cur', h1, h2, h3, h4, h5, h6⟩ := row_cell hrow
  have hx : w.cell? ⟨g, l.length, none⟩ = some (.int .i64 x) := by
    rw [cell_of_row w g l.length _ _ (0, 0) h1, h6 _ (by omega)]
    simp
  have hlen : (S.get t).length = l.length + 1 := by rw [hl, hln]
  rw [hv, hlen] at ctt
  have hc : l.length ≤ cap := by omega
  go_enter Try.func57, Try.ntmps57
  go_wp2_with fail
  go_region
  go_wp2_with fail
  go_ret
  have hb : (Value.slice (some ⟨g, 0, none⟩) l.length cap).ownBlock = (V t).ownBlock := by rw [hv]; rfl
  have hcut := row_cut hrow (Nat.zero_le g) (m := l.length) (by omega)
  rw [show (ints (l ++ [x])).take l.length = ints l by simp] at hcut
  have st := s.turn ht (T := Nob) (Fr.refl _ _) (fun _ h => h.elim) hcut (fun g' hg => .inl (hb ▸ hg))
  refine ⟨rfl, SegAt.drew ⟨ru, ri, _, st, fun k => (hK k).trans (own_turn hb)⟩, ((Fr.refl _ _).setCell _ (fun _ => (hK p).2 (.inl rfl)) _).drew⟩

theorem new_eq (w : World) : Calls Try.prog 23 #[] w fun e w' => ∃ p K, e = .returned (.pointer (some ⟨p, 0, none⟩)) ∧ SegAt w' p K ⟨[], [], [], [], []⟩ ∧ Fr Nob w w' ∧ ∀ k, K k → w.heap.size ≤ k := by
  go_enter Try.func23, Try.ntmps23
  go_wp2_with (first | (with_reducible refine wpList_makeM (o := ⟨some 1, .makeMap 94 none, _, _, _, _⟩) rfl rfl ?_) | (with_reducible refine wpList_makeM (o := ⟨some 2, .makeMap 95 none, _, _, _, _⟩) rfl rfl ?_))
  go_ret
  refine ⟨w.heap.size + 1 + 1, _, rfl, ⟨w.heap.size, w.heap.size + 1, fun _ => .slice none 0 0, ⟨?_, fun t _ => ?_, ?_, ?_, ?_, ?_, by omega, by omega, by omega⟩, fun k => Iff.rfl⟩, (((Fr.refl _ _).alloc _).alloc _).alloc _, ?_⟩
  · have := heap_alloc_new ((w.alloc (.map #[] 0)).alloc (.map #[] 0)) (.cells #[.slice none 0 0, .slice none 0 0, .slice none 0 0, .map (some w.heap.size), .map (some (w.heap.size + 1))] 98)
    simpa using this
  · have : (Sg.mk [] [] [] [] []).get t = [] := by
      match t with
      | 0 => rfl
      | 1 => rfl
      | t + 2 => rfl
    rw [this]
    exact World.ownsRow_nil _ _ _ _
  · exact ((MapIs.made w).keep (S := Nob) ((Fr.refl _ _).alloc _) fun h => h).keep (S := Nob) ((Fr.refl _ _).alloc _) fun h => h
  · have := (MapIs.made (key := Value.int .i64) (val := Value.int .i64) (w.alloc (.map #[] 0))).keep (S := Nob) ((Fr.refl _ _).alloc (.cells #[.slice none 0 0, .slice none 0 0, .slice none 0 0, .map (some w.heap.size), .map (some (w.heap.size + 1))] 98)) fun h => h
    simpa using this
  · intro t g _ h
    cases h
  · intro s t g _ _ _ h
    cases h
  · rintro k (rfl | rfl | rfl | ⟨t, _, h⟩)
    · omega
    · omega
    · omega
    · cases h

theorem len_eq {w : World} {p : Nat} {K : Nat → Prop} {S : Sg} (s : SegAt w p K S) : Calls Try.prog 42 #[.pointer (some ⟨p, 0, none⟩)] w fun e w' => e = .returned (.int .i64 S.I.length) ∧ w = w' := by
  obtain ⟨ru, ri, V, s, hK⟩ := s
  obtain ⟨c0, c1, c2, c3, c4, ct, fz⟩ := s.cells
  go_enter Try.func42, Try.ntmps42
  go_wp2_with (at_len; refine wpList_lenM rfl _ _ rfl Try.underlying95 s.inn rfl ?_)
  go_ret
  exact ⟨rfl, rfl⟩

theorem push_eq {w : World} {p : Nat} {K : Nat → Prop} {S : Sg} (s : SegAt w p K S) {t : Nat} (ht : t < 3) (x : Int) (hn : (S.get t).length ≤ 1000000) :
    Calls Try.prog 48 #[.pointer (some ⟨p, 0, none⟩), .int .i64 x, .int .i64 t] w fun e w' => e = .returned (.tuple #[]) ∧
      ∃ K', SegAt w' p K' { S.set t (x :: S.get t) with I := setM S.I x (t : Int), U := delM S.U x } ∧ Fr K w w' ∧ ∀ k, K' k → K k ∨ w.heap.size ≤ k := by
  obtain ⟨ru, ri, V, s, hK⟩ := s
  obtain ⟨c0, c1, c2, c3, c4, ct, fz⟩ := s.cells
  have ctt := ct t ht
  have fzt := fz t
  have s1 := (s.keep (T := Nob) ((Fr.refl _ w).alloc (.cells #[.int .i64 x] 3)) fun _ _ h => h).drew
  have hvb : (V t).ownBlock ≠ some w.heap.size := fun h => by have := ((s.rows t ht).lt _ h).2; omega
  have hc := insert0 (s1.rows t ht) hn x (heap_alloc_new w (.cells #[.int .i64 x] 3)) hvb
  obtain ⟨q0, q1, q2, q3, q4, qt, qz⟩ := s1.cells
  have q := qt t ht
  have t0 : (0 : Int) ≤ (t : Int) := by omega
  have t3 : (t : Int) < 3 := by omega
  have t4 : ((t : Int)).toNat = t := by omega
  go_enter Try.func48, Try.ntmps48
  go_wp2_with fail
  go_region_with (go_at_call 62; refine hc.mono ?_; rintro e w2 ⟨v', rfl, ho2, f2, hv2⟩; obtain ⟨g', cap', rfl⟩ := row_slice ho2; have hp2 : ¬ (some p = (V t).ownBlock) := fun h => (s.sep t p ht h.symm).1 rfl; have e1 := f2.cell q hp2; have e2 := (f2.frozen (p := ⟨p, t, none⟩) (lt_of_block s1.top) hp2).trans (qz t))
  all_goals
    have st := s1.turn ht (l := x :: S.get t) f2 (fun k h _ => h) ho2 hv2
    obtain ⟨W, hW⟩ : ∃ W, W = w2.setCell ⟨p, t, none⟩ (.slice (some ⟨g', 0, none⟩) ((S.get t).length + 1) cap') := ⟨_, rfl⟩
    rw [← hW] at st ⊢
    obtain ⟨d0, d1, d2, d3, d4, dt, dz⟩ := st.cells
    clear hc q q0 q1 q2 q3 q4 qt qz c0 c1 c2 c3 c4 ct fz ctt fzt e1 e2
    have hfW : Fr K w W := by
      rw [hW]
      refine Fr.setCell ?_ _ (fun _ => (hK p).2 (.inl rfl)) _
      exact (((Fr.refl K w).alloc (.cells #[.int .i64 x] 3)).drew).trans f2 fun k _ h => (hK k).2 (.inr (.inr (.inr ⟨t, ht, h.symm⟩)))
    clear hW
    go_wp2_with (first | (at_mapUpdate; refine wpList_updateM rfl _ _ _ _ rfl (int_key .i64) Try.underlying95 Try.underlying3 st.inn rfl x rfl (t : Int) rfl ?_; intro w3 m3 f3; have g3 := f3.cell d3 st.pi) | (at_delete; refine wpList_deleteM rfl _ _ _ _ rfl (int_key .i64) Try.underlying94 Try.underlying3 (st.used.keep f3 st.ui) rfl x rfl ?_; intro w4 m4 f4))
    go_end0
    have s4 := st.remap (w' := w4) ((f3.mono fun _ _ h => .inr h).trans (f4.mono (S' := fun k => k = ru ∨ k = ri) fun _ _ h => .inl h) fun _ _ h => h) m4 (m3.keep f4 fun h => st.ui h.symm)
    rw [S.set_U, S.set_I] at s4
    refine ⟨rfl, _, ⟨ru, ri, _, s4, fun k => Iff.rfl⟩, ?_, ?_⟩
    · exact (hfW.trans f3 fun k _ h => (hK k).2 (.inr (.inr (.inl h)))).trans f4 fun k _ h => (hK k).2 (.inr (.inl h))
    · rintro k (h | h | h | ⟨j, hj, h⟩)
      · exact .inl (.inl h)
      · exact .inl (.inr (.inl h))
      · exact .inl (.inr (.inr (.inl h)))
      · unfold vset at h
        split at h
        · rcases hv2 k h with h2 | h2
          · exact .inl (.inr (.inr (.inr ⟨t, ht, h2⟩)))
          · exact .inr (Nat.le_trans ((Fr.refl Nob w).alloc (.cells #[.int .i64 x] 3)).size h2)
        · exact .inl (.inr (.inr (.inr ⟨j, hj, h⟩)))

end Go.Proofs.Ytpbbokpmlemboaa
