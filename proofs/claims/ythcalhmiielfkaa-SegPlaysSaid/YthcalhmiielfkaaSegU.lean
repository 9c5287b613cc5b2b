/-
  The reference's Seg: Add: a node goes from one list's end to another one's head.
-/
import Derived.Test.YthcalhmiielfkaaSegT
namespace Go.Proofs.Ythcalhmiielfkaa
open Go.RowKit

def rset (R : Nat → List Nd) (t : Nat) (l : List Nd) : Nat → List Nd := fun k => if k = t then l else R k

theorem RIn.drew {w : World} {q : Nat} {V : Nat → Value} {R : Nat → List Nd} (s : RIn w q V R) : RIn w.drew q V R := s.keep (T := Nob) (Fr.refl _ _).drew fun _ _ h => h

theorem RIn.turn {w w' : World} {q : Nat} {V : Nat → Value} {R : Nat → List Nd} (s : RIn w q V R) {t : Nat} (ht : t < 3) {v : Value} {l : List Nd} (f : Fr Nob w w')
    (ho : w'.ownsRow 0 59 2 v l.length (nodesV l)) (hv : ∀ g, v.ownBlock = some g → (V t).ownBlock = some g ∨ w.heap.size ≤ g) : RIn (w'.setCell ⟨q, t, none⟩ v) q (vset V t v) (rset R t l) := by
  have htop := f.heap s.top fun h => h
  have hvp : ∀ g, v.ownBlock = some g → g ≠ q := fun g hg => by
    rcases hv g hg with h | h
    · exact s.sep t g ht h
    · exact fun e => by have := lt_of_block s.top; omega
  have f1 : Fr (One q) w' (w'.setCell ⟨q, t, none⟩ v) := (Fr.refl _ _).set1 v
  refine ⟨?_, fun k hk => ?_, fun k g hk hg => ?_, fun a b g ha hb hab hg hg2 => ?_⟩
  · rw [heap_setCell_same w' q t _ _ v htop]
    match t with
    | 0 => rfl
    | 1 => rfl
    | 2 => rfl
    | t + 3 => omega
  · unfold vset rset
    by_cases e : k = t
    · rw [if_pos e, if_pos e]
      exact f1.ownsRow ho fun g hg h => hvp g hg h
    · rw [if_neg e, if_neg e]
      exact f1.ownsRow (f.ownsRow (s.rows k hk) fun g hg h => h) fun g hg h => s.sep k g hk hg h
  · unfold vset at hg
    by_cases e : k = t
    · rw [if_pos e] at hg
      exact hvp g hg
    · rw [if_neg e] at hg
      exact s.sep k g hk hg
  · unfold vset at hg hg2
    by_cases ea : a = t
    · subst ea
      rw [if_pos rfl] at hg
      rw [if_neg (fun e => hab e.symm)] at hg2
      rcases hv g hg with h | h
      · exact s.two a b g ha hb hab h hg2
      · have := ((s.rows b hb).lt g hg2).2
        omega
    · rw [if_neg ea] at hg
      by_cases eb : b = t
      · subst eb
        rw [if_pos rfl] at hg2
        rcases hv g hg2 with h | h
        · exact s.two a b g ha hb hab hg h
        · have := ((s.rows a ha).lt g hg).2
          omega
      · rw [if_neg eb] at hg2
        exact s.two a b g ha hb hab hg hg2

/-- The node's two cells, loaded at once. -/
theorem run_node {w : World} {base : Nat} {g cap : Nat} {l : List Nd} {y : Nd} (h : w.ownsRow base 59 2 (.slice (some ⟨g, 0, none⟩) (l.length + 1) cap) (l.length + 1) (nodesV (l ++ [y]))) {w' : World} (hw : w'.heap[g]? = w.heap[g]?) :
    (loadVar 59 ⟨g, l.length * 2, none⟩).run Try.prog w' = .ok (.agg #[.int .i64 y.1, .bool y.2]) w' := by
  rcases h.2 with ⟨h, _⟩ | ⟨g', cap', cur, he, h0, h1, h2, h3, h4, h5⟩
  · simp at h
  · simp only [Value.slice.injEq, Option.some.injEq, Addr.mk.injEq] at he
    obtain ⟨⟨rfl, _⟩, _, rfl⟩ := he
    have hl : l.length < (l ++ [y]).length := by simp
    obtain ⟨n1, n2⟩ := nodesV_at (l ++ [y]) l.length hl
    have hy : (l ++ [y]).getD l.length (0, false) = y := by simp
    rw [hy] at n1 n2
    refine run_loadVar_mid w' g (l.length * 2) 2 59 59 cur #[.int .i64 y.1, .bool y.2] (0, 0) _ (hw.trans h1) Try.underlying59 rfl (by kernel_rfl) rfl fun j hj => ?_
    have hc : ∀ i, i < (l.length + 1) * 2 → cur[i]? = (nodesV (l ++ [y]))[i]? := fun i hi => by
      rw [← h5, List.getElem?_take, if_pos hi]
      simp
    match j with
    | 0 => rw [Nat.add_zero, hc _ (by omega), n1]; rfl
    | 1 => rw [hc _ (by omega), n2]; rfl
    | j + 2 => omega

theorem row_cut2 {w : World} {base : Nat} {e : TypeId} {g cap : Nat} {l : List Nd} {y : Nd} (h : w.ownsRow base e 2 (.slice (some ⟨g, 0, none⟩) (l.length + 1) cap) (l.length + 1) (nodesV (l ++ [y]))) : w.ownsRow base e 2 (.slice (some ⟨g, 0, none⟩) l.length cap) l.length (nodesV l) := by
  refine ⟨nodesV_len l, ?_⟩
  rcases h.2 with ⟨_, h⟩ | ⟨g', cap', cur, he, h0, h1, h2, h3, h4, h5⟩
  · omega
  · simp only [Value.slice.injEq, Option.some.injEq, Addr.mk.injEq] at he
    obtain ⟨⟨rfl, _⟩, _, rfl⟩ := he
    refine .inr ⟨g, cap, cur, rfl, h0, h1, by omega, h3, h4, ?_⟩
    have h6 := congrArg (List.take (l.length * 2)) h5
    rw [List.take_take, Nat.min_eq_left (by omega), nodesV_append, List.take_left' (nodesV_len l)] at h6
    exact h6

def rpush (R : Nat → List Nd) (x : Int) : Nat → List Nd := rset R 0 ((x, false) :: R 0)
/-- The reference's sink. -/
def rsink (R : Nat → List Nd) (t : Nat) (l : List Nd) (y : Nd) : Nat → List Nd := rset (rset R t l) (if y.2 then 1 else 2) ((y.1, false) :: rset R t l (if y.2 then 1 else 2))

/-- Nodes go on from list t till at most b are left. -/
inductive RSunk (b t : Nat) : (Nat → List Nd) → (Nat → List Nd) → Prop
  | done {R : Nat → List Nd} (h : (R t).length ≤ b) : RSunk b t R R
  | more {R R' : Nat → List Nd} {l : List Nd} {y : Nd} (h : b < (R t).length) (hl : R t = l ++ [y]) (k : RSunk b t (rsink R t l y) R') : RSunk b t R R'

theorem rLen_set (R : Nat → List Nd) {t : Nat} (ht : t < 3) (l : List Nd) : rLen (rset R t l) + (R t).length = rLen R + l.length := by
  unfold rLen rset
  match t with
  | 0 => simp; omega
  | 1 => simp; omega
  | 2 => simp; omega
  | t + 3 => omega
theorem rLen_le (R : Nat → List Nd) {t : Nat} (ht : t < 3) : (R t).length ≤ rLen R := by
  unfold rLen
  match t with
  | 0 => omega
  | 1 => omega
  | 2 => omega
  | t + 3 => omega
theorem rLen_move (R : Nat → List Nd) {t t' : Nat} (ht : t < 3) (ht' : t' < 3) {l : List Nd} {y z : Nd} (hl : R t = l ++ [y]) : rLen (rset (rset R t l) t' (z :: rset R t l t')) = rLen R := by
  have h1 := rLen_set R ht l
  have h2 := rLen_set (rset R t l) ht' (z :: rset R t l t')
  rw [hl] at h1
  simp at h1 h2
  omega
theorem lastN {l : List Nd} (h : 0 < l.length) : ∃ k y, l = k ++ [y] := ⟨l.dropLast, l.getLast (by intro e; rw [e] at h; simp at h), (List.dropLast_concat_getLast _).symm⟩

theorem row_slice2 {w : World} {base : Nat} {e : TypeId} {v : Value} {n : Nat} {xs : List Value} (h : w.ownsRow base e 2 v (n + 1) xs) : ∃ g cap, v = .slice (some ⟨g, 0, none⟩) (n + 1) cap := by
  rcases h.2 with ⟨_, h⟩ | ⟨g, cap, _, h, _⟩
  · omega
  · exact ⟨g, cap, h⟩

theorem RTo.go {w w1 w2 : World} {q : Nat} {K K1 : Nat → Prop} {R2 : Nat → List Nd} (f : Fr K w w1) (h : ∀ k, K1 k → K k ∨ w.heap.size ≤ k) (g : RTo w1 q K1 w2 R2) : RTo w q K w2 R2 := by
  obtain ⟨K2, s2, f2, h2⟩ := g
  refine ⟨K2, s2, f.trans f2 fun k hk h1 => (h k h1).elim id fun h => by omega, fun k hk => ?_⟩
  rcases h2 k hk with h3 | h3
  · exact h k h3
  · exact .inr (Nat.le_trans f.size h3)

theorem RIn.to {w w' : World} {q : Nat} {V : Nat → Value} {R' : Nat → List Nd} {K : Nat → Prop} (hK : ∀ k, K k ↔ ROwn q V k) {t : Nat} (ht : t < 3) {v : Value} (f : Fr K w w') (s : RIn w' q (vset V t v) R') (hv : ∀ g, v.ownBlock = some g → (V t).ownBlock = some g ∨ w.heap.size ≤ g) : RTo w q K w' R' := by
  refine ⟨_, ⟨_, s, fun k => Iff.rfl⟩, f, ?_⟩
  rintro k (h | ⟨j, hj, h⟩)
  · exact .inl ((hK k).2 (.inl h))
  · unfold vset at h
    split at h
    · rcases hv k h with h2 | h2
      · exact .inl ((hK k).2 (.inr ⟨t, ht, h2⟩))
      · exact .inr h2
    · exact .inl ((hK k).2 (.inr ⟨j, hj, h⟩))

def usedN (l : List Nd) : Nat := l.countP fun y => y.2
theorem rsink_mu {R : Nat → List Nd} {l : List Nd} {y : Nd} (hl : R 1 = l ++ [y]) : ((rsink R 1 l y) 1).length + usedN ((rsink R 1 l y) 1) < (R 1).length + usedN (R 1) := by
  rw [hl]
  unfold rsink usedN
  cases hy : y.2 with
  | true =>
    simp [rset, hy]
  | false =>
    simp [rset, hy]

def RAdded (R : Nat → List Nd) (x : Int) (R' : Nat → List Nd) : Prop := ∃ R1, RSunk ((rLen R + 5) / 5) 0 (rset R 0 ((x, false) :: R 0)) R1 ∧ RSunk (2 * (rLen R + 1) / 5) 1 R1 R'

theorem rsink_eq {R : Nat → List Nd} {l : List Nd} {y : Nd} {t t' : Nat} (h : (if y.2 then 1 else 2) = t') : rsink R t l y = rset (rset R t l) t' ((y.1, false) :: rset R t l t') := by
  unfold rsink
  rw [h]

/-- One round's end: from the world wr to the world behind the store. -/
theorem round_to {wr Wc w5 : World} {q t0 t : Nat} {K3 : Nat → Prop} {V3 : Nat → Value} {R1 : Nat → List Nd} {v0 v5 : Value} {z : Nd} (ht0 : t0 < 3) (ht : t < 3) (hK : ∀ k, K3 k ↔ ROwn q V3 k) (f : Fr K3 wr Wc) (s : RIn Wc q (vset V3 t0 v0) R1) (hv0 : v0.ownBlock = (V3 t0).ownBlock)
    (f5 : Fr Nob Wc.drew w5) (own5 : w5.ownsRow Wc.drew.heap.size 59 2 v5 ((R1 t).length + 1) (nodesV (z :: R1 t))) : RTo wr q K3 (w5.setCell ⟨q, t, none⟩ v5) (rset R1 t (z :: R1 t)) := by
  have hv : ∀ g, v5.ownBlock = some g → (vset V3 t0 v0 t).ownBlock = some g ∨ Wc.heap.size ≤ g := fun g hg => .inr ((own5.lt g hg).1)
  have sd := s.drew.turn ht (l := z :: R1 t) f5 (row_base (Nat.zero_le _) own5) hv
  have g1 : RTo Wc q (ROwn q (vset V3 t0 v0)) (w5.setCell ⟨q, t, none⟩ v5) (rset R1 t (z :: R1 t)) :=
    sd.to (K := ROwn q (vset V3 t0 v0)) (fun _ => Iff.rfl) ht ((((Fr.refl _ Wc).drew.trans' f5.nob)).setCell _ (fun _ => .inl rfl) _) hv
  refine RTo.go f (fun k hk => ?_) g1
  rcases hk with h | ⟨j, hj, h⟩
  · exact .inl ((hK k).2 (.inl h))
  · unfold vset at h
    split at h
    · exact .inl ((hK k).2 (.inr ⟨t0, ht0, hv0 ▸ h⟩))
    · exact .inl ((hK k).2 (.inr ⟨j, hj, h⟩))

theorem rhas_none {w : World} {q : Nat} {K : Nat → Prop} {R : Nat → List Nd} (s : RAt w q K R) : RTo w q K w R := ⟨K, s, Fr.refl _ _, fun _ h => .inl h⟩

set_option maxRecDepth 100000 in
set_option maxHeartbeats 1600000 in
theorem radd_in {w : World} {q : Nat} {K : Nat → Prop} {R : Nat → List Nd} (s : RAt w q K R) (hn : rLen R ≤ 10000) (x : Int) (hx : rHas R x = false) :
    Calls Try.prog 16 #[.pointer (some ⟨q, 0, none⟩), .int .i64 x] w fun e w' => e = .returned (.bool true) ∧ ∃ R', RTo w q K w' R' ∧ RAdded R x R' := by
  have s0 := Lib.hid s
  obtain ⟨V, s, hK⟩ := s
  have HK := Lib.hid hK
  go_enter Try.func16, Try.ntmps16
  go_wp2_with fail
  refine (has_eq s0.out (by omega) x).mono ?_
  rintro e w1 ⟨rfl, f1⟩
  rw [hx]
  have F1 := Lib.hid f1
  have s1 := Lib.hid (s.keep f1 fun _ _ h => h)
  have c0 := s1.out.cells.1 0 (by omega)
  have z0 := s1.out.cells.2 0
  have hle : (R 0).length ≤ 10000 := by unfold rLen at hn; omega
  clear f1 s hK
  go_wp2_with fail
  refine (head_eq (.of_row (s1.out.rows 0 (by omega))) (by omega) x).mono ?_
  rintro e w2 ⟨v2, rfl, own2, f2⟩
  have c2 := f2.cell c0 (fun h => h)
  have z2 := (f2.frozen (p := ⟨q, 0, none⟩) (lt_of_block s1.out.top) (fun h => h)).trans z0
  obtain ⟨g2, cap2, rfl⟩ : ∃ g cap, v2 = .slice (some ⟨g, 0, none⟩) ((R 0).length + 1) cap := by
    rcases own2.2 with ⟨_, h⟩ | ⟨g, cap, _, h, _⟩
    · omega
    · exact ⟨g, cap, h⟩
  have st := s1.out.turn (t := 0) (by omega) (l := (x, false) :: R 0) f2 (row_base (Nat.zero_le _) own2) (fun g hg => .inr ((own2.lt g hg).1))
  have hv2 : ∀ g, (Value.slice (some ⟨g2, 0, none⟩) ((R 0).length + 1) cap2).ownBlock = some g → (V 0).ownBlock = some g ∨ w.heap.size ≤ g := fun g hg => .inr (Nat.le_trans F1.out.size ((own2.lt g hg).1))
  have T2 := Lib.hid (st.to HK.out (t := 0) (by omega) (((F1.out.trans' f2).nob).setCell ⟨q, 0, none⟩ (fun _ => (HK.out q).2 (.inl rfl)) (.slice (some ⟨g2, 0, none⟩) ((R 0).length + 1) cap2)) hv2)
  go_wp2_with fail
  obtain ⟨W, hW⟩ : ∃ W, W = w2.setCell ⟨q, 0, none⟩ (.slice (some ⟨g2, 0, none⟩) ((R 0).length + 1) cap2) := ⟨_, rfl⟩
  rw [← hW] at T2 ⊢
  obtain ⟨R2, hR2⟩ : ∃ R2, R2 = rset R 0 ((x, false) :: R 0) := ⟨_, rfl⟩
  rw [← hR2] at T2
  have hL2 : rLen R2 = rLen R + 1 := by
    have := rLen_set R (t := 0) (by omega) ((x, false) :: R 0)
    rw [hR2]
    simp at this
    omega
  have HR2 := Lib.hid hR2
  clear hR2
  obtain ⟨n, hnn⟩ : ∃ n, rLen R + 1 = n := ⟨_, rfl⟩
  rw [hnn] at hL2
  have hn10 : n ≤ 10001 := by omega
  have HL2 := Lib.hid hL2
  have HNN := Lib.hid hnn
  clear hW st hv2 own2 f2 c2 z2 c0 z0 hL2 hnn hle
  have T2o := T2.out
  obtain ⟨K2, a2, b2, d2⟩ := T2o
  refine (rlen_eq a2 (by rw [HL2.out]; omega)).mono ?_
  rintro e w3 ⟨rfl, f3⟩
  rw [HL2.out]
  have T3 := Lib.hid (RTo.go b2 d2 ⟨K2, a2.keep f3 fun _ _ h => h, f3.nob, fun _ h => .inl h⟩)
  clear a2 b2 d2 f3 T2
  go_wp2_with fail
  go_loopg [] ((R2 0).length + 1) (fun gk wr => ∃ R3, gk = (R3 0).length + 1 ∧ Hid (RTo w q K wr R3) ∧ Hid (rLen R3 = n) ∧ Hid (∀ R', RSunk ((n + 4) / 5) 0 R3 R' → RSunk ((n + 4) / 5) 0 R2 R'))
  case atStart => exact ⟨R2, rfl, T3, HL2, Lib.hid fun _ h => h⟩
  case round =>
    clear T3
    obtain ⟨R3, rfl, t3, l3, k3⟩ := hrel
    have t3o := t3.out
    obtain ⟨K3, ⟨V3, s3, hK3⟩, f3, h3⟩ := t3o
    have S3 := Lib.hid s3
    have HK3 := Lib.hid hK3
    have F3 := Lib.hid f3
    have H3 := Lib.hid h3
    obtain ⟨a, cap, hv⟩ := row_shape (s3.rows 0 (by omega))
    have c0 := s3.cells.1 0 (by omega)
    have z0 := s3.cells.2 0
    rw [hv] at c0
    have hle := rLen_le R3 (t := 0) (by omega)
    rw [l3.out] at hle
    clear f3 h3 hK3 s3
    by_cases hq : (n + 4) / 5 < (R3 0).length
    · obtain ⟨l, y, hl⟩ := lastN (l := R3 0) (by omega)
      have hlen : (R3 0).length = l.length + 1 := by rw [hl]; simp
      have hq' : ((n : Int) + 4) / 5 < ((l.length + 1 : Nat) : Int) := by omega
      have hrow := S3.out.rows 0 (by omega)
      rw [hv, hlen, hl] at hrow
      obtain ⟨g, rfl⟩ : ∃ g, a = some ⟨g, 0, none⟩ := by
        rcases hrow.2 with ⟨_, h⟩ | ⟨g, cap', _, h, _⟩
        · omega
        · simp only [Value.slice.injEq] at h
          exact ⟨g, h.1⟩
      have hA := run_node hrow (w' := wr.drew) rfl
      have hB := run_node hrow (w' := (wr.alloc (.cells #[.int .i64 0, .bool false] 59)).drew) (((Fr.refl Nob wr).alloc _).drew.block g ((hrow.lt g rfl).2) fun h => h)
      rw [hlen] at c0 hle
      have hcap : l.length + 1 ≤ cap := by
        rcases hrow.2 with ⟨_, h⟩ | ⟨g', cap', _, h, _, _, h2, _⟩
        · omega
        · simp only [Value.slice.injEq] at h
          obtain ⟨_, _, rfl⟩ := h
          exact h2
      have hwl : IntKind.i64.wrap (l.length : Int) = (l.length : Int) := by rw [IntKind.wrap_i64]; omega
      have cA := ((Fr.refl Nob wr).alloc (.cells #[.int .i64 0, .bool false] 59)).cell c0 (fun h => h)
      have hlt : (l.length : Int) < (l.length : Int) + 1 := by omega
      obtain ⟨d1, d2⟩ : wr.cell? ⟨g, l.length * 2, none⟩ = some (.int .i64 y.1) ∧ wr.cell? ⟨g, l.length * 2 + 1, none⟩ = some (.bool y.2) := by
        have hrl : (l ++ [y]).length = l.length + 1 := by simp
        have hr2 : wr.ownsRow 0 59 2 (.slice (some ⟨g, 0, none⟩) (l.length + 1) cap) (l ++ [y]).length (nodesV (l ++ [y])) := by rw [hrl]; exact hrow
        obtain ⟨a', cap', he, hh⟩ := RdNodes.of_row hr2
        obtain ⟨g', hg', e1, e2⟩ := hh l.length (by omega)
        simp only [Value.slice.injEq] at he
        rw [← he.1] at hg'
        have hgg : g = g' := by simpa using hg'
        subst hgg
        have hy : (l ++ [y]).getD l.length (0, false) = y := by simp
        rw [hy] at e1 e2
        exact ⟨e1, e2⟩
      have dA1 := ((Fr.refl Nob wr).alloc (.cells #[.int .i64 0, .bool false] 59)).cell d1 (fun h => h)
      have dA2 := ((Fr.refl Nob wr).alloc (.cells #[.int .i64 0, .bool false] 59)).cell d2 (fun h => h)
      have ROW := Lib.hid hrow
      have HLL := Lib.hid hl
      have HV3 := Lib.hid hv
      have QQ := Lib.hid hq
      clear hrow hl hv hlen hq
      go_wp2_with fail
      go_region
      obtain ⟨X, hX⟩ : ∃ X, X = wr.heap.size := ⟨_, rfl⟩
      obtain ⟨Wb, hWb⟩ : ∃ Wb, Wb = (wr.alloc (.cells #[.int .i64 y.1, .bool y.2] 59)).drew := ⟨_, rfl⟩
      rw [← hWb, ← hX]
      have fb : Fr Nob wr Wb := by rw [hWb]; exact ((Fr.refl Nob wr).alloc _).drew
      have hnew : Wb.heap[X]? = some (.cells #[.int .i64 y.1, .bool y.2] 59 (0, 0)) := by rw [hWb, hX]; exact heap_alloc_new wr _
      have Sb := Lib.hid (S3.out.keep fb fun _ _ h => h)
      have cb := Sb.out.cells.1 0 (by omega)
      rw [HV3.out, show (R3 0).length = l.length + 1 by rw [HLL.out]; simp] at cb
      have zb := Sb.out.cells.2 0
      have Fb := Lib.hid fb
      have NEW := Lib.hid hnew
      have HX := Lib.hid hX
      clear hWb hX fb hnew hA hB cA d1 d2 dA1 dA2 c0 z0
      have hll : l.length ≤ cap := by omega
      go_wp2_with fail
      go_region
      have hvb : (Value.slice (some ⟨g, 0, none⟩) l.length cap).ownBlock = (V3 0).ownBlock := by rw [HV3.out]; rfl
      have hcut := row_cut2 (Fb.out.ownsRow ROW.out fun _ _ h => h)
      have sc := (Sb.out.turn (t := 0) (by omega) (l := l) (Fr.refl Nob Wb) hcut (fun g' hg => .inl (hvb ▸ hg))).drew
      have fc : Fr K3 wr (Wb.setCell ⟨q, 0, none⟩ (.slice (some ⟨g, 0, none⟩) l.length cap)).drew := (Fb.out.nob.setCell _ (fun _ => (HK3.out q).2 (.inl rfl)) _).drew
      have hXq : q ≠ X := fun e => by
        have := lt_of_block S3.out.top
        rw [e, HX.out] at this
        omega
      have hnewc : (Wb.setCell ⟨q, 0, none⟩ (.slice (some ⟨g, 0, none⟩) l.length cap)).drew.heap[X]? = some (.cells #[.int .i64 y.1, .bool y.2] 59 (0, 0)) := by
        show (Wb.setCell ⟨q, 0, none⟩ (.slice (some ⟨g, 0, none⟩) l.length cap)).heap[X]? = _
        rw [heap_setCell_other Wb _ X _ (fun e => hXq e.symm)]
        exact NEW.out
      generalize (Wb.setCell ⟨q, 0, none⟩ (.slice (some ⟨g, 0, none⟩) l.length cap)).drew = Wc at *
      have Sc := Lib.hid sc
      have Fc := Lib.hid fc
      have HVB := Lib.hid hvb
      have x1 : Wc.cell? ⟨X, 0, none⟩ = some (.int .i64 y.1) := cell_of_row Wc X 0 _ _ (0, 0) hnewc
      have x2 : Wc.cell? ⟨X, 1, none⟩ = some (.bool y.2) := cell_of_row Wc X 1 _ _ (0, 0) hnewc
      clear sc fc hnewc hvb hcut cb zb
      cases hy2 : y.2 with
      | true =>
        have hyt : (if y.2 then 1 else 2) = 1 := by rw [hy2]; rfl
        have hmv := rLen_move R3 (t := 0) (t' := 1) (by omega) (by omega) (z := (y.1, false)) HLL.out
        have hle1 := rLen_le (rset R3 0 l) (t := 1) (by omega)
        have hls := rLen_set R3 (t := 0) (by omega) l
        rw [HLL.out, l3.out] at hls
        simp at hls
        have hR1 : rset R3 0 l 1 = R3 1 := rfl
        have ct := Sc.out.cells.1 1 (by omega)
        have zt := Sc.out.cells.2 1
        have hhead := Lib.hid (head_eq (w := Wc.drew) (.of_row ((Sc.out.drew).rows 1 (by omega))) (by omega) y.1)
        have Y2 := Lib.hid hy2
        have YT := Lib.hid hyt
        have MV := Lib.hid hmv
        clear hyt hmv hle1 hls hR1
        rw [hy2] at x2
        clear hy2
        go_wp2_with fail
        go_region_with (go_at_call 32; refine hhead.out.mono ?_; rintro e w5 ⟨v5, rfl, own5, f5⟩; obtain ⟨g5, cap5, rfl⟩ := row_slice2 own5; have e1 := f5.cell ct (fun h => h); have e2 := (f5.frozen (p := ⟨q, 1, none⟩) (lt_of_block Sc.out.top) (fun h => h)).trans zt)
        · have G5 := Lib.hid (RTo.go F3.out H3.out (round_to (t0 := 0) (t := 1) (by omega) (by omega) HK3.out Fc.out Sc.out HVB.out f5 own5))
          rw [← rsink_eq YT.out] at G5
          have LL : Hid (rLen (rsink R3 0 l y) = n) := Lib.hid (by rw [rsink_eq YT.out, MV.out, l3.out])
          have hnl : ((rsink R3 0 l y) 0).length = l.length := by rw [rsink_eq YT.out]; rfl
          have KK : Hid (∀ R', RSunk ((n + 4) / 5) 0 (rsink R3 0 l y) R' → RSunk ((n + 4) / 5) 0 R2 R') := Lib.hid fun R' h => k3.out R' (.more QQ.out HLL.out h)
          clear f5 own5 e1 e2 ct zt hhead x1 x2
          go_wp2_with fail
          go_roundg (((rsink R3 0 l y) 0).length + 1)
          case measure =>
            have hR3 : (R3 0).length = l.length + 1 := by rw [HLL.out]; simp
            omega
          case rel => exact ⟨rsink R3 0 l y, rfl, G5, LL, KK⟩
        · have G5 := Lib.hid (RTo.go F3.out H3.out (round_to (t0 := 0) (t := 1) (by omega) (by omega) HK3.out Fc.out Sc.out HVB.out f5 own5))
          rw [← rsink_eq YT.out] at G5
          have LL : Hid (rLen (rsink R3 0 l y) = n) := Lib.hid (by rw [rsink_eq YT.out, MV.out, l3.out])
          have hnl : ((rsink R3 0 l y) 0).length = l.length := by rw [rsink_eq YT.out]; rfl
          have KK : Hid (∀ R', RSunk ((n + 4) / 5) 0 (rsink R3 0 l y) R' → RSunk ((n + 4) / 5) 0 R2 R') := Lib.hid fun R' h => k3.out R' (.more QQ.out HLL.out h)
          clear f5 own5 e1 e2 ct zt hhead x1 x2
          go_wp2_with fail
          go_roundg (((rsink R3 0 l y) 0).length + 1)
          case measure =>
            have hR3 : (R3 0).length = l.length + 1 := by rw [HLL.out]; simp
            omega
          case rel => exact ⟨rsink R3 0 l y, rfl, G5, LL, KK⟩
      | false =>
        have hyt : (if y.2 then 1 else 2) = 2 := by rw [hy2]; rfl
        have hmv := rLen_move R3 (t := 0) (t' := 2) (by omega) (by omega) (z := (y.1, false)) HLL.out
        have hle1 := rLen_le (rset R3 0 l) (t := 2) (by omega)
        have hls := rLen_set R3 (t := 0) (by omega) l
        rw [HLL.out, l3.out] at hls
        simp at hls
        have hR1 : rset R3 0 l 2 = R3 2 := rfl
        have ct := Sc.out.cells.1 2 (by omega)
        have zt := Sc.out.cells.2 2
        have hhead := Lib.hid (head_eq (w := Wc.drew) (.of_row ((Sc.out.drew).rows 2 (by omega))) (by omega) y.1)
        have Y2 := Lib.hid hy2
        have YT := Lib.hid hyt
        have MV := Lib.hid hmv
        clear hyt hmv hle1 hls hR1
        rw [hy2] at x2
        clear hy2
        go_wp2_with fail
        go_region_with (go_at_call 32; refine hhead.out.mono ?_; rintro e w5 ⟨v5, rfl, own5, f5⟩; obtain ⟨g5, cap5, rfl⟩ := row_slice2 own5; have e1 := f5.cell ct (fun h => h); have e2 := (f5.frozen (p := ⟨q, 2, none⟩) (lt_of_block Sc.out.top) (fun h => h)).trans zt)
        · have G5 := Lib.hid (RTo.go F3.out H3.out (round_to (t0 := 0) (t := 2) (by omega) (by omega) HK3.out Fc.out Sc.out HVB.out f5 own5))
          rw [← rsink_eq YT.out] at G5
          have LL : Hid (rLen (rsink R3 0 l y) = n) := Lib.hid (by rw [rsink_eq YT.out, MV.out, l3.out])
          have hnl : ((rsink R3 0 l y) 0).length = l.length := by rw [rsink_eq YT.out]; rfl
          have KK : Hid (∀ R', RSunk ((n + 4) / 5) 0 (rsink R3 0 l y) R' → RSunk ((n + 4) / 5) 0 R2 R') := Lib.hid fun R' h => k3.out R' (.more QQ.out HLL.out h)
          clear f5 own5 e1 e2 ct zt hhead x1 x2
          go_wp2_with fail
          go_roundg (((rsink R3 0 l y) 0).length + 1)
          case measure =>
            have hR3 : (R3 0).length = l.length + 1 := by rw [HLL.out]; simp
            omega
          case rel => exact ⟨rsink R3 0 l y, rfl, G5, LL, KK⟩
        · have G5 := Lib.hid (RTo.go F3.out H3.out (round_to (t0 := 0) (t := 2) (by omega) (by omega) HK3.out Fc.out Sc.out HVB.out f5 own5))
          rw [← rsink_eq YT.out] at G5
          have LL : Hid (rLen (rsink R3 0 l y) = n) := Lib.hid (by rw [rsink_eq YT.out, MV.out, l3.out])
          have hnl : ((rsink R3 0 l y) 0).length = l.length := by rw [rsink_eq YT.out]; rfl
          have KK : Hid (∀ R', RSunk ((n + 4) / 5) 0 (rsink R3 0 l y) R' → RSunk ((n + 4) / 5) 0 R2 R') := Lib.hid fun R' h => k3.out R' (.more QQ.out HLL.out h)
          clear f5 own5 e1 e2 ct zt hhead x1 x2
          go_wp2_with fail
          go_roundg (((rsink R3 0 l y) 0).length + 1)
          case measure =>
            have hR3 : (R3 0).length = l.length + 1 := by rw [HLL.out]; simp
            omega
          case rel => exact ⟨rsink R3 0 l y, rfl, G5, LL, KK⟩
    · have hq' : ¬ ((n : Int) + 4) / 5 < ((R3 0).length : Int) := by omega
      have D1 := Lib.hid (k3.out R3 (.done (by omega)))
      have T9 := t3
      have L9 := l3
      obtain ⟨R9, h9⟩ : ∃ R9, R9 = R3 := ⟨_, rfl⟩
      rw [← h9] at D1 T9 L9
      go_wp2_with fail
      clear h9 S3 HK3 F3 H3 c0 z0 hle hq hq' t3 l3 k3 hv
      go_loopg [] (((R9 1).length + usedN (R9 1)) + 1) (fun gk wr => ∃ R3, gk = ((R3 1).length + usedN (R3 1)) + 1 ∧ Hid (RTo w q K wr R3) ∧ Hid (rLen R3 = n) ∧ Hid (∀ R', RSunk (2 * n / 5) 1 R3 R' → RSunk (2 * n / 5) 1 R9 R'))
      case atStart => exact ⟨R9, rfl, T9, L9, Lib.hid fun _ h => h⟩
      case round =>
        clear T9 L9
        obtain ⟨R3, rfl, t3, l3, k3⟩ := hrel
        have t3o := t3.out
        obtain ⟨K3, ⟨V3, s3, hK3⟩, f3, h3⟩ := t3o
        have S3 := Lib.hid s3
        have HK3 := Lib.hid hK3
        have F3 := Lib.hid f3
        have H3 := Lib.hid h3
        obtain ⟨a, cap, hv⟩ := row_shape (s3.rows 1 (by omega))
        have c0 := s3.cells.1 1 (by omega)
        have z0 := s3.cells.2 1
        rw [hv] at c0
        have hle := rLen_le R3 (t := 1) (by omega)
        rw [l3.out] at hle
        clear f3 h3 hK3 s3
        by_cases hq : 2 * n / 5 < (R3 1).length
        · obtain ⟨l, y, hl⟩ := lastN (l := R3 1) (by omega)
          have hlen : (R3 1).length = l.length + 1 := by rw [hl]; simp
          have hq' : (2 * (n : Int)) / 5 < ((l.length + 1 : Nat) : Int) := by omega
          have hrow := S3.out.rows 1 (by omega)
          rw [hv, hlen, hl] at hrow
          obtain ⟨g, rfl⟩ : ∃ g, a = some ⟨g, 0, none⟩ := by
            rcases hrow.2 with ⟨_, h⟩ | ⟨g, cap', _, h, _⟩
            · omega
            · simp only [Value.slice.injEq] at h
              exact ⟨g, h.1⟩
          have hA := run_node hrow (w' := wr.drew) rfl
          have hB := run_node hrow (w' := (wr.alloc (.cells #[.int .i64 0, .bool false] 59)).drew) (((Fr.refl Nob wr).alloc _).drew.block g ((hrow.lt g rfl).2) fun h => h)
          rw [hlen] at c0 hle
          have hcap : l.length + 1 ≤ cap := by
            rcases hrow.2 with ⟨_, h⟩ | ⟨g', cap', _, h, _, _, h2, _⟩
            · omega
            · simp only [Value.slice.injEq] at h
              obtain ⟨_, _, rfl⟩ := h
              exact h2
          have hwl : IntKind.i64.wrap (l.length : Int) = (l.length : Int) := by rw [IntKind.wrap_i64]; omega
          have cA := ((Fr.refl Nob wr).alloc (.cells #[.int .i64 0, .bool false] 59)).cell c0 (fun h => h)
          have hlt : (l.length : Int) < (l.length : Int) + 1 := by omega
          obtain ⟨d1, d2⟩ : wr.cell? ⟨g, l.length * 2, none⟩ = some (.int .i64 y.1) ∧ wr.cell? ⟨g, l.length * 2 + 1, none⟩ = some (.bool y.2) := by
            have hrl : (l ++ [y]).length = l.length + 1 := by simp
            have hr2 : wr.ownsRow 0 59 2 (.slice (some ⟨g, 0, none⟩) (l.length + 1) cap) (l ++ [y]).length (nodesV (l ++ [y])) := by rw [hrl]; exact hrow
            obtain ⟨a', cap', he, hh⟩ := RdNodes.of_row hr2
            obtain ⟨g', hg', e1, e2⟩ := hh l.length (by omega)
            simp only [Value.slice.injEq] at he
            rw [← he.1] at hg'
            have hgg : g = g' := by simpa using hg'
            subst hgg
            have hy : (l ++ [y]).getD l.length (0, false) = y := by simp
            rw [hy] at e1 e2
            exact ⟨e1, e2⟩
          have dA1 := ((Fr.refl Nob wr).alloc (.cells #[.int .i64 0, .bool false] 59)).cell d1 (fun h => h)
          have dA2 := ((Fr.refl Nob wr).alloc (.cells #[.int .i64 0, .bool false] 59)).cell d2 (fun h => h)
          have ROW := Lib.hid hrow
          have HLL := Lib.hid hl
          have HV3 := Lib.hid hv
          have QQ := Lib.hid hq
          clear hrow hl hv hlen hq
          go_wp2_with fail
          go_region
          obtain ⟨X, hX⟩ : ∃ X, X = wr.heap.size := ⟨_, rfl⟩
          obtain ⟨Wb, hWb⟩ : ∃ Wb, Wb = (wr.alloc (.cells #[.int .i64 y.1, .bool y.2] 59)).drew := ⟨_, rfl⟩
          rw [← hWb, ← hX]
          have fb : Fr Nob wr Wb := by rw [hWb]; exact ((Fr.refl Nob wr).alloc _).drew
          have hnew : Wb.heap[X]? = some (.cells #[.int .i64 y.1, .bool y.2] 59 (0, 0)) := by rw [hWb, hX]; exact heap_alloc_new wr _
          have Sb := Lib.hid (S3.out.keep fb fun _ _ h => h)
          have cb := Sb.out.cells.1 1 (by omega)
          rw [HV3.out, show (R3 1).length = l.length + 1 by rw [HLL.out]; simp] at cb
          have zb := Sb.out.cells.2 1
          have Fb := Lib.hid fb
          have NEW := Lib.hid hnew
          have HX := Lib.hid hX
          clear hWb hX fb hnew hA hB cA d1 d2 dA1 dA2 c0 z0
          have hll : l.length ≤ cap := by omega
          go_wp2_with fail
          go_region
          have hvb : (Value.slice (some ⟨g, 0, none⟩) l.length cap).ownBlock = (V3 1).ownBlock := by rw [HV3.out]; rfl
          have hcut := row_cut2 (Fb.out.ownsRow ROW.out fun _ _ h => h)
          have sc := (Sb.out.turn (t := 1) (by omega) (l := l) (Fr.refl Nob Wb) hcut (fun g' hg => .inl (hvb ▸ hg))).drew
          have fc : Fr K3 wr (Wb.setCell ⟨q, 1, none⟩ (.slice (some ⟨g, 0, none⟩) l.length cap)).drew := (Fb.out.nob.setCell _ (fun _ => (HK3.out q).2 (.inl rfl)) _).drew
          have hXq : q ≠ X := fun e => by
            have := lt_of_block S3.out.top
            rw [e, HX.out] at this
            omega
          have hnewc : (Wb.setCell ⟨q, 1, none⟩ (.slice (some ⟨g, 0, none⟩) l.length cap)).drew.heap[X]? = some (.cells #[.int .i64 y.1, .bool y.2] 59 (0, 0)) := by
            show (Wb.setCell ⟨q, 1, none⟩ (.slice (some ⟨g, 0, none⟩) l.length cap)).heap[X]? = _
            rw [heap_setCell_other Wb _ X _ (fun e => hXq e.symm)]
            exact NEW.out
          generalize (Wb.setCell ⟨q, 1, none⟩ (.slice (some ⟨g, 0, none⟩) l.length cap)).drew = Wc at *
          have Sc := Lib.hid sc
          have Fc := Lib.hid fc
          have HVB := Lib.hid hvb
          have x1 : Wc.cell? ⟨X, 0, none⟩ = some (.int .i64 y.1) := cell_of_row Wc X 0 _ _ (0, 0) hnewc
          have x2 : Wc.cell? ⟨X, 1, none⟩ = some (.bool y.2) := cell_of_row Wc X 1 _ _ (0, 0) hnewc
          clear sc fc hnewc hvb hcut cb zb
          cases hy2 : y.2 with
          | true =>
            have hyt : (if y.2 then 1 else 2) = 1 := by rw [hy2]; rfl
            have hmv := rLen_move R3 (t := 1) (t' := 1) (by omega) (by omega) (z := (y.1, false)) HLL.out
            have hle1 := rLen_le (rset R3 1 l) (t := 1) (by omega)
            have hls := rLen_set R3 (t := 1) (by omega) l
            rw [HLL.out, l3.out] at hls
            simp at hls
            have hR1 : rset R3 1 l 1 = l := rfl
            have ct := Sc.out.cells.1 1 (by omega)
            have zt := Sc.out.cells.2 1
            have hhead := Lib.hid (head_eq (w := Wc.drew) (.of_row ((Sc.out.drew).rows 1 (by omega))) (by omega) y.1)
            have Y2 := Lib.hid hy2
            have YT := Lib.hid hyt
            have MV := Lib.hid hmv
            clear hyt hmv hle1 hls hR1
            rw [hy2] at x2
            clear hy2
            go_wp2_with fail
            go_region_with (go_at_call 32; refine hhead.out.mono ?_; rintro e w5 ⟨v5, rfl, own5, f5⟩; obtain ⟨g5, cap5, rfl⟩ := row_slice2 own5; have e1 := f5.cell ct (fun h => h); have e2 := (f5.frozen (p := ⟨q, 1, none⟩) (lt_of_block Sc.out.top) (fun h => h)).trans zt)
            · have G5 := Lib.hid (RTo.go F3.out H3.out (round_to (t0 := 1) (t := 1) (by omega) (by omega) HK3.out Fc.out Sc.out HVB.out f5 own5))
              rw [← rsink_eq YT.out] at G5
              have LL : Hid (rLen (rsink R3 1 l y) = n) := Lib.hid (by rw [rsink_eq YT.out, MV.out, l3.out])
              have hmu := rsink_mu (R := R3) HLL.out
              have KK : Hid (∀ R', RSunk (2 * n / 5) 1 (rsink R3 1 l y) R' → RSunk (2 * n / 5) 1 R9 R') := Lib.hid fun R' h => k3.out R' (.more QQ.out HLL.out h)
              clear f5 own5 e1 e2 ct zt hhead x1 x2
              go_wp2_with fail
              go_roundg ((((rsink R3 1 l y) 1).length + usedN ((rsink R3 1 l y) 1)) + 1)
              case measure => omega
              case rel => exact ⟨rsink R3 1 l y, rfl, G5, LL, KK⟩
            · have G5 := Lib.hid (RTo.go F3.out H3.out (round_to (t0 := 1) (t := 1) (by omega) (by omega) HK3.out Fc.out Sc.out HVB.out f5 own5))
              rw [← rsink_eq YT.out] at G5
              have LL : Hid (rLen (rsink R3 1 l y) = n) := Lib.hid (by rw [rsink_eq YT.out, MV.out, l3.out])
              have hmu := rsink_mu (R := R3) HLL.out
              have KK : Hid (∀ R', RSunk (2 * n / 5) 1 (rsink R3 1 l y) R' → RSunk (2 * n / 5) 1 R9 R') := Lib.hid fun R' h => k3.out R' (.more QQ.out HLL.out h)
              clear f5 own5 e1 e2 ct zt hhead x1 x2
              go_wp2_with fail
              go_roundg ((((rsink R3 1 l y) 1).length + usedN ((rsink R3 1 l y) 1)) + 1)
              case measure => omega
              case rel => exact ⟨rsink R3 1 l y, rfl, G5, LL, KK⟩
          | false =>
            have hyt : (if y.2 then 1 else 2) = 2 := by rw [hy2]; rfl
            have hmv := rLen_move R3 (t := 1) (t' := 2) (by omega) (by omega) (z := (y.1, false)) HLL.out
            have hle1 := rLen_le (rset R3 1 l) (t := 2) (by omega)
            have hls := rLen_set R3 (t := 1) (by omega) l
            rw [HLL.out, l3.out] at hls
            simp at hls
            have hR1 : rset R3 1 l 2 = R3 2 := rfl
            have ct := Sc.out.cells.1 2 (by omega)
            have zt := Sc.out.cells.2 2
            have hhead := Lib.hid (head_eq (w := Wc.drew) (.of_row ((Sc.out.drew).rows 2 (by omega))) (by omega) y.1)
            have Y2 := Lib.hid hy2
            have YT := Lib.hid hyt
            have MV := Lib.hid hmv
            clear hyt hmv hle1 hls hR1
            rw [hy2] at x2
            clear hy2
            go_wp2_with fail
            go_region_with (go_at_call 32; refine hhead.out.mono ?_; rintro e w5 ⟨v5, rfl, own5, f5⟩; obtain ⟨g5, cap5, rfl⟩ := row_slice2 own5; have e1 := f5.cell ct (fun h => h); have e2 := (f5.frozen (p := ⟨q, 2, none⟩) (lt_of_block Sc.out.top) (fun h => h)).trans zt)
            · have G5 := Lib.hid (RTo.go F3.out H3.out (round_to (t0 := 1) (t := 2) (by omega) (by omega) HK3.out Fc.out Sc.out HVB.out f5 own5))
              rw [← rsink_eq YT.out] at G5
              have LL : Hid (rLen (rsink R3 1 l y) = n) := Lib.hid (by rw [rsink_eq YT.out, MV.out, l3.out])
              have hmu := rsink_mu (R := R3) HLL.out
              have KK : Hid (∀ R', RSunk (2 * n / 5) 1 (rsink R3 1 l y) R' → RSunk (2 * n / 5) 1 R9 R') := Lib.hid fun R' h => k3.out R' (.more QQ.out HLL.out h)
              clear f5 own5 e1 e2 ct zt hhead x1 x2
              go_wp2_with fail
              go_roundg ((((rsink R3 1 l y) 1).length + usedN ((rsink R3 1 l y) 1)) + 1)
              case measure => omega
              case rel => exact ⟨rsink R3 1 l y, rfl, G5, LL, KK⟩
            · have G5 := Lib.hid (RTo.go F3.out H3.out (round_to (t0 := 1) (t := 2) (by omega) (by omega) HK3.out Fc.out Sc.out HVB.out f5 own5))
              rw [← rsink_eq YT.out] at G5
              have LL : Hid (rLen (rsink R3 1 l y) = n) := Lib.hid (by rw [rsink_eq YT.out, MV.out, l3.out])
              have hmu := rsink_mu (R := R3) HLL.out
              have KK : Hid (∀ R', RSunk (2 * n / 5) 1 (rsink R3 1 l y) R' → RSunk (2 * n / 5) 1 R9 R') := Lib.hid fun R' h => k3.out R' (.more QQ.out HLL.out h)
              clear f5 own5 e1 e2 ct zt hhead x1 x2
              go_wp2_with fail
              go_roundg ((((rsink R3 1 l y) 1).length + usedN ((rsink R3 1 l y) 1)) + 1)
              case measure => omega
              case rel => exact ⟨rsink R3 1 l y, rfl, G5, LL, KK⟩
        · have hq' : ¬ (2 * (n : Int)) / 5 < ((R3 1).length : Int) := by omega
          have D2 := Lib.hid (k3.out R3 (.done (by omega)))
          go_wp2_with fail
          go_ret
          refine ⟨rfl, R3, t3.out, R9, ?_, ?_⟩
          · rw [show (rLen R + 5) / 5 = (n + 4) / 5 by have := HNN.out; omega, ← HR2.out]
            exact D1.out
          · rw [HNN.out]
            exact D2.out

end Go.Proofs.Ythcalhmiielfkaa
