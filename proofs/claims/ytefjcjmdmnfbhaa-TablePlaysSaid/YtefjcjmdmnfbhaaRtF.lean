/-
  The reference's table beside the plain one: the keys' and numbers' rows; what the document's buckets are to the plain ones.
-/
import Derived.Test.YtefjcjmdmnfbhaaRtE
namespace Go.Proofs.Ytefjcjmdmnfbhaa
open Go.RowKit

theorem rows_base {w : World} {b b' n size : Nat} {e : TypeId} {v : Value} {xs : List Value} (h : w.ownsRow b e size v n xs) (hb : b' ≤ b) : w.ownsRow b' e size v n xs := by
  refine ⟨h.1, ?_⟩
  rcases h.2 with h | ⟨g, cap, cur, h1, h2, h3⟩
  · exact .inl h
  · exact .inr ⟨g, cap, cur, h1, Nat.le_trans hb h2, h3⟩

theorem row_setS {w : World} {base n cap g size : Nat} {t : TypeId} {xs : List Value} (h : w.ownsRow base t size (.slice (some ⟨g, 0, none⟩) n cap) n xs) (i : Nat) (u : Value) : (w.setCell ⟨g, i, none⟩ u).ownsRow base t size (.slice (some ⟨g, 0, none⟩) n cap) n (xs.set i u) := by
  refine ⟨by rw [List.length_set]; exact h.1, .inr ?_⟩
  rcases h.2 with ⟨h1, _⟩ | ⟨g', cap', cur, h1, h2, h3, h4, h5, h6, h7⟩
  · cases h1
  · simp only [Value.slice.injEq, Option.some.injEq, Addr.mk.injEq, and_true] at h1
    obtain ⟨rfl, _, rfl⟩ := h1
    refine ⟨g, cap, cur.setIfInBounds i u, rfl, h2, heap_setCell_same w g i _ _ _ h3, h4, h5, by simpa using h6, ?_⟩
    rw [Array.toList_setIfInBounds, List.take_set, h7]

/-- As RIn, the keys and the numbers apart. -/
structure RIn2 (w : World) (W t gn : Nat) (nw : List (List ByteArray)) (vo : Value) (od : List (List ByteArray)) (next : Nat) (kv vv : Value) (K : List ByteArray) (V : List Int) : Prop where
  hd : w.heap[t]? = some (.cells #[.slice (some ⟨gn, 0, none⟩) nw.length nw.length, vo, .int .i64 next, kv, vv] 43 (0, 0))
  nws : RowsAt w W kv gn nw
  ods : RowsO w W kv gn vo od
  ks : w.ownsRow W 9 1 kv K.length (strsV K)
  vs : w.ownsRow W 3 1 vv V.length (intsV V)
  lo : W ≤ t

section
variable {w w' w1 : World} {W t gn go next : Nat} {nw od : List (List ByteArray)} {vo kv vv kv' vv' : Value} {m : List (ByteArray × Int)} {K K' : List ByteArray} {V V' : List Int}
theorem RIn.two (s : RIn w W t gn nw vo od next kv vv m) : RIn2 w W t gn nw vo od next kv vv (keysM m) (m.map (·.2)) :=
  ⟨s.hd, s.nws, s.ods, by rw [keysM_len]; exact s.ks, by rw [List.length_map]; exact s.vs, s.lo⟩
theorem RIn2.one (s : RIn2 w W t gn nw vo od next kv vv (keysM m) (m.map (·.2))) : RIn w W t gn nw vo od next kv vv m :=
  ⟨s.hd, s.nws, s.ods, by have := s.ks; rw [keysM_len] at this; exact this, by have := s.vs; rw [List.length_map] at this; exact this, s.lo⟩
theorem InR.rekey {X : Nat → Prop} {u : Value} {l : List ByteArray} (h : InR w W kv u l) (f : Fr X w w') (hx : ∀ k, u.ownBlock = some k → ¬ X k) (hk : ∀ i, kv'.ownBlock = some i → kv.ownBlock = some i ∨ w.heap.size ≤ i) : InR w' W kv' u l := by
  refine ⟨h.1.keep f hx, fun k e => ?_⟩
  obtain ⟨a, b, cs, c⟩ := h.2 k e
  refine ⟨a, fun e2 => ?_, cs, f.heap c (hx k e)⟩
  rcases hk k e2 with h3 | h3
  · exact b h3
  · have := lt_of_block c
    omega
theorem RowsAt.rekey {X : Nat → Prop} {g : Nat} {ll : List (List ByteArray)} (h : RowsAt w W kv g ll) (f : Fr X w w') (hg : ¬ X g) (hx : ∀ k cs, w.heap[k]? = some (.cells cs 9 (0, 0)) → kv.ownBlock ≠ some k → ¬ X k) (hk : ∀ i, kv'.ownBlock = some i → kv.ownBlock = some i ∨ w.heap.size ≤ i) : RowsAt w' W kv' g ll := by
  obtain ⟨hW, cs, c, hs, hr⟩ := h
  refine ⟨hW, cs, f.heap c hg, hs, fun i l hi => ?_⟩
  obtain ⟨u, hu, hin⟩ := hr i l hi
  exact ⟨u, hu, hin.rekey f (fun k e => by obtain ⟨_, b, cs, c⟩ := hin.2 k e; exact hx k cs c b) hk⟩
/-- The keys' row written anew: appended to, or another one. -/
theorem RIn2.keys (s : RIn2 w W t gn nw vo od next kv vv K V) (f : Fr (fun i => kv.ownBlock = some i) w w1) (o : w1.ownsRow W 9 1 kv' K'.length (strsV K')) (hk : ∀ i, kv'.ownBlock = some i → kv.ownBlock = some i ∨ w.heap.size ≤ i) :
    RIn2 (w1.setCell ⟨t, 3, none⟩ kv') W t gn nw vo od next kv' vv K' V := by
  have hkv : ∀ {k : Nat} {cs : Array Value} {b : TypeId}, w.heap[k]? = some (.cells cs b (0, 0)) → 9 ≠ b → ¬ kv.ownBlock = some k := fun c hb e => ownsRow_ne s.ks c hb e
  have ft : Fr (One t) w1 (w1.setCell ⟨t, 3, none⟩ kv') := (Fr.refl _ _).set1 _
  have hd1 := f.heap s.hd (hkv s.hd (by decide))
  have f2 : Fr (fun i => kv.ownBlock = some i ∨ i = t) w (w1.setCell ⟨t, 3, none⟩ kv') := (f.mono fun _ _ e => .inl e).trans' (ft.mono fun _ _ e => .inr e)
  have hx : ∀ k cs, w.heap[k]? = some (.cells cs 9 (0, 0)) → kv.ownBlock ≠ some k → ¬ (kv.ownBlock = some k ∨ k = t) := fun k cs c h e => by
    rcases e with e | e
    · exact h e
    · exact types_ne c s.hd (by decide) e
  have hg : ∀ {g : Nat} {ll : List (List ByteArray)}, RowsAt w W kv g ll → ¬ (kv.ownBlock = some g ∨ g = t) := fun h e => by
    obtain ⟨_, cs, c, _⟩ := h
    rcases e with e | e
    · exact hkv c (by decide) e
    · exact types_ne c s.hd (by decide) e
  refine ⟨heap_setCell_same w1 t 3 _ _ _ hd1, s.nws.rekey f2 (hg s.nws) hx hk, ?_, ?_, ?_, s.lo⟩
  · rcases s.ods with h | ⟨g, h1, h2, h3⟩
    · exact .inl h
    · exact .inr ⟨g, h1, h2, h3.rekey f2 (hg h3) hx hk⟩
  · exact ft.ownsRow o fun k e e2 => by unfold One at e2; subst e2; exact ownsRow_ne o hd1 (by decide) e
  · exact f2.ownsRow s.vs fun k e e2 => by
      rcases e2 with e2 | e2
      · rcases s.ks.2 with ⟨h, _⟩ | ⟨g, cap, cur, h, _, c, _⟩
        · rw [h] at e2; cases e2
        · rw [h] at e2
          have : g = k := by simpa [Value.ownBlock] using e2
          subst this
          exact ownsRow_ne s.vs c (by decide) e
      · subst e2; exact ownsRow_ne s.vs s.hd (by decide) e
theorem RIn2.vals (s : RIn2 w W t gn nw vo od next kv vv K V) (f : Fr (fun i => vv.ownBlock = some i) w w1) (o : w1.ownsRow W 3 1 vv' V'.length (intsV V')) :
    RIn2 (w1.setCell ⟨t, 4, none⟩ vv') W t gn nw vo od next kv vv' K V' := by
  have hvv : ∀ {k : Nat} {cs : Array Value} {b : TypeId}, w.heap[k]? = some (.cells cs b (0, 0)) → 3 ≠ b → ¬ vv.ownBlock = some k := fun c hb e => ownsRow_ne s.vs c hb e
  have ft : Fr (One t) w1 (w1.setCell ⟨t, 4, none⟩ vv') := (Fr.refl _ _).set1 _
  have hd1 := f.heap s.hd (hvv s.hd (by decide))
  have f2 : Fr (fun i => vv.ownBlock = some i ∨ i = t) w (w1.setCell ⟨t, 4, none⟩ vv') := (f.mono fun _ _ e => .inl e).trans' (ft.mono fun _ _ e => .inr e)
  have far : ∀ {k : Nat} {cs : Array Value} {b : TypeId}, w.heap[k]? = some (.cells cs b (0, 0)) → 3 ≠ b → b ≠ 43 → ¬ (vv.ownBlock = some k ∨ k = t) := fun c h1 h2 e => by
    rcases e with e | e
    · exact hvv c h1 e
    · exact types_ne c s.hd h2 e
  refine ⟨heap_setCell_same w1 t 4 _ _ _ hd1, s.nws.keep f2 ?_ fun k cs c _ => far c (by decide) (by decide), s.ods.keep f2 (fun k cs _ c => far c (by decide) (by decide)) fun k cs c _ => far c (by decide) (by decide), ?_, ?_, s.lo⟩
  · obtain ⟨_, cs, c, _⟩ := s.nws
    exact far c (by decide) (by decide)
  · refine f2.ownsRow s.ks fun k e e2 => ?_
    rcases s.ks.2 with ⟨h, _⟩ | ⟨g, cap, cur, h, _, c, _⟩
    · rw [h] at e; cases e
    · rw [h] at e
      have : g = k := by simpa [Value.ownBlock] using e
      subst this
      exact far c (by decide) (by decide) e2
  · exact ft.ownsRow o fun k e e2 => by unfold One at e2; subst e2; exact ownsRow_ne o hd1 (by decide) e
/-- One number set anew. -/
theorem RIn2.setVal {g n cap : Nat} (s : RIn2 w W t gn nw vo od next kv (.slice (some ⟨g, 0, none⟩) n cap) K V) (i : Nat) (x : Int) :
    RIn2 (w.setCell ⟨g, i, none⟩ (.int .i64 x)) W t gn nw vo od next kv (.slice (some ⟨g, 0, none⟩) n cap) K (V.set i x) := by
  have fs : Fr (One g) w (w.setCell ⟨g, i, none⟩ (.int .i64 x)) := (Fr.refl _ _).set1 _
  have hsv := s.vs
  rcases s.vs.2 with ⟨h, _⟩ | ⟨g', cap', cur, h, hb, c, h4, h5, h6, h7⟩
  · cases h
  · injection h with h1 h2 h3
    injection h1 with h1
    injection h1 with h1
    subst h1 h2 h3
    refine ⟨fs.heap s.hd (types_ne s.hd c (by decide)), s.nws.keep fs ?_ fun k cs c2 _ => types_ne c2 c (by decide), s.ods.keep fs (fun k cs _ c2 => types_ne c2 c (by decide)) fun k cs c2 _ => types_ne c2 c (by decide), ?_, ?_, s.lo⟩
    · obtain ⟨_, cs, c2, _⟩ := s.nws
      exact types_ne c2 c (by decide)
    · exact fs.ownsRow s.ks fun k e e2 => ownsRow_ne s.ks c (by decide) (by rw [e]; exact congrArg some e2)
    · rw [List.length_set, show intsV (V.set i x) = (intsV V).set i (.int .i64 x) by unfold intsV; rw [List.map_set]]
      exact row_setS hsv i _

/-- What the document's buckets are to the plain table's. -/
structure RSim (S : KT) (od : List (List ByteArray)) (next : Nat) : Prop where
  le : next ≤ od.length
  left : S.left = od.length - next
  live : 0 < S.left → od = S.old
  dead : S.left = 0 → ∀ l ∈ od, l = []
  big : od.length ≤ 65536
theorem rsim_new (n : Nat) : RSim (newK n) [] 0 := ⟨Nat.le_refl _, rfl, fun h => absurd h (Nat.lt_irrefl 0), fun _ l h => (by cases h), (by simp)⟩
theorem RSim.idle {S : KT} (r : RSim S od next) (h : od.length ≤ next) : moveK S = S := by
  unfold moveK
  rw [if_pos]
  rw [r.left]
  omega
theorem RSim.first {S : KT} (r : RSim S od next) (h : next < od.length) : S.first = next ∧ od = S.old := by
  have h1 := r.left
  have h2 := r.live (by omega)
  refine ⟨?_, h2⟩
  unfold KT.first
  rw [← h2]
  omega
theorem RSim.move {S : KT} (r : RSim S od next) (h : next < od.length) (ok : S.Ok) : RSim (moveK S) (od.set next []) (next + 1) ∧ (moveK S).now = (od.getD next []).foldl pushK S.now := by
  obtain ⟨hf, rfl⟩ := r.first h
  have h1 := r.left
  have hz : ¬ S.left = 0 := by omega
  have e : moveK S = { now := (S.old.getD S.first []).foldl pushK S.now, old := if S.left = 1 then [] else S.old.set S.first [], left := S.left - 1, m := S.m } := by unfold moveK; rw [if_neg hz]
  rw [e, hf]
  refine ⟨⟨by rw [List.length_set]; omega, by show S.left - 1 = _; rw [List.length_set]; omega, fun h => ?_, fun h l hl => ?_, by rw [List.length_set]; exact r.big⟩, rfl⟩
  · show _ = if S.left = 1 then [] else _
    rw [if_neg (by show ¬ S.left = 1; replace h : 0 < S.left - 1 := h; omega)]
  · obtain ⟨i, hi, e⟩ := List.getElem_of_mem hl
    rw [List.getElem_set] at e
    split at e
    · exact e.symm
    · rename_i hne
      cases l with
      | nil => rfl
      | cons x r2 =>
        rw [List.length_set] at hi
        have := ok.oldAt i x (by rw [List.getD_eq_getElem?_getD, List.getElem?_eq_getElem hi]; show x ∈ S.old[i]; rw [e]; simp)
        replace h : S.left - 1 = 0 := h
        omega
theorem RSim.put {S : KT} (r : RSim S od next) (k : ByteArray) :
    (oldR od.length next k = -1 ∧ ¬ S.inOld k ∧ RSim (putK S k) od next ∧ (putK S k).now = pushK S.now k) ∨
    (oldR od.length next k = ((hashK k % od.length : Nat) : Int) ∧ next < od.length ∧ hashK k % od.length < od.length ∧ RSim (putK S k) (pushK od k) next ∧ (putK S k).now = S.now) := by
  have h1 := r.left
  by_cases h : od.length ≤ next
  · have hn : ¬ S.inOld k := fun hi => by have := hi.1; omega
    refine .inl ⟨if_pos h, hn, ?_, ?_⟩
    · unfold putK
      rw [if_neg hn]
      exact ⟨r.le, r.left, r.live, r.dead, r.big⟩
    · unfold putK
      rw [if_neg hn]
  · obtain ⟨hf, he⟩ := r.first (by omega)
    by_cases hb : hashK k % od.length < next
    · have hn : ¬ S.inOld k := fun hi => by have := hi.2; rw [hf, ← he] at this; omega
      refine .inl ⟨by unfold oldR; rw [if_neg h, if_pos hb], hn, ?_, ?_⟩
      · unfold putK
        rw [if_neg hn]
        exact ⟨r.le, r.left, r.live, r.dead, r.big⟩
      · unfold putK
        rw [if_neg hn]
    · have hn : S.inOld k := ⟨by omega, by rw [hf, ← he]; omega⟩
      refine .inr ⟨by unfold oldR; rw [if_neg h, if_neg hb], by omega, Nat.mod_lt _ (by omega), ?_, ?_⟩
      · unfold putK
        rw [if_pos hn]
        exact ⟨by rw [pushK_len]; exact r.le, by rw [pushK_len]; exact r.left, fun _ => by show pushK od k = pushK S.old k; rw [he], fun h => by replace h : S.left = 0 := h; omega, by rw [pushK_len]; exact r.big⟩
      · unfold putK
        rw [if_pos hn]
theorem RSim.upd {S S' : KT} (r : RSim S od next) (h1 : S'.left = S.left) (h2 : S'.old = S.old) : RSim S' od next := ⟨r.le, by rw [h1]; exact r.left, by rw [h1, h2]; exact r.live, by rw [h1]; exact r.dead, r.big⟩
theorem RSim.del {S S' : KT} (r : RSim S od next) (k : ByteArray) (h1 : S'.left = S.left) (h2 : S'.old = S.old.map (dropK k)) : RSim S' (od.map (dropK k)) next :=
  ⟨by rw [List.length_map]; exact r.le, by rw [h1, List.length_map]; exact r.left, fun h => by rw [h2, r.live (by omega)], fun h l hl => by
    obtain ⟨l', hl', rfl⟩ := List.mem_map.1 hl
    rw [r.dead (by omega) l' hl']
    rfl, by rw [List.length_map]; exact r.big⟩
end
end Go.Proofs.Ytefjcjmdmnfbhaa
