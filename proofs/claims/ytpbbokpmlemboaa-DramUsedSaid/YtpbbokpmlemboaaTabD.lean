/-
  The table in memory, told by its keys and numbers; contracts of Len, Buckets, Left, Get, New.
-/
import Derived.Test.YtpbbokpmlemboaaTabC
import Derived.Laws.BitsAllLaws
namespace Go.Proofs.Ytpbbokpmlemboaa.Tb
open Go.RowKit

def keysE (c : List En) : List ByteArray := c.map En.key
def Tb.all (T : Tb) : List En := T.now.flatten ++ T.old.flatten

structure Tb.Is (T : Tb) (S : KT) : Prop where
  now : T.now.map keysE = S.now
  old : T.old.map keysE = S.old
  left : T.left = S.left
  n : T.n = S.m.length
  vals : ∀ e, e ∈ T.all → (e.key, e.v) ∈ S.m

def TabIn (w : World) (W t : Nat) (K : Nat → Prop) (S : KT) : Prop :=
  ∃ gn go T, TabAt w W t gn go T ∧ T.Is S ∧ ∀ k, K k ↔ k = t ∨ BOwn gn go T.now T.old k
def TabTo (w : World) (W t : Nat) (K : Nat → Prop) (w' : World) (S' : KT) : Prop :=
  ∃ K', TabIn w' W t K' S' ∧ Fr K w w' ∧ ∀ k, K' k → K k ∨ w.heap.size ≤ k

section
variable {w w' : World} {W t gn go : Nat} {K : Nat → Prop} {T : Tb} {S : KT}

theorem Tb.Is.nowL (h : T.Is S) : T.now.length = S.now.length := by rw [← h.now, List.length_map]
theorem Tb.Is.oldL (h : T.Is S) : T.old.length = S.old.length := by rw [← h.old, List.length_map]
theorem Tb.Is.fit (h : T.Is S) (ok : S.Ok) : T.Fit := by
  refine ⟨?_, ?_, ?_, ?_⟩
  · rw [h.nowL]; exact ok.pos
  · rw [h.left, h.oldL]; exact ok.le
  · rw [h.nowL]; exact ok.big
  · rw [h.oldL]; exact ok.olds
theorem Tb.Is.inOld (h : T.Is S) (k : ByteArray) : T.inOld k ↔ S.inOld k := by
  unfold Tb.inOld KT.inOld Tb.first KT.first
  rw [h.left, h.oldL]
theorem keysE_flat (l : List (List En)) : (l.map keysE).flatten = keysE l.flatten := by unfold keysE; rw [List.map_flatten]
theorem Tb.Is.all (h : T.Is S) : keysE T.all = S.all := by
  unfold Tb.all KT.all
  rw [← h.now, ← h.old, keysE_flat, keysE_flat]
  exact List.map_append ..
theorem Tb.Is.chain (h : T.Is S) (k : ByteArray) : keysE (T.chain k) = S.chain k := by
  unfold Tb.chain KT.chain
  by_cases hin : T.inOld k
  · rw [if_pos hin, if_pos ((h.inOld k).1 hin), ← h.old, map_getD _ _ rfl, List.length_map]
  · rw [if_neg hin, if_neg (fun h2 => hin ((h.inOld k).2 h2)), ← h.now, map_getD _ _ rfl, List.length_map]
theorem chain_sub {k : ByteArray} {e : En} (he : e ∈ T.chain k) : e ∈ T.all := by
  unfold Tb.chain at he
  unfold Tb.all
  rw [List.mem_append]
  split at he
  · exact .inr (mem_flatten_getD.2 ⟨_, getD_len he, he⟩)
  · exact .inl (mem_flatten_getD.2 ⟨_, getD_len he, he⟩)
theorem suf_cases (k : ByteArray) (c : List En) : (sufE k c = [] ∧ k ∉ keysE c) ∨ ∃ e r, sufE k c = e :: r ∧ e.key = k ∧ e ∈ c ∧ k ∉ keysE (preE k c) := by
  induction c with
  | nil => exact .inl ⟨rfl, fun h => by cases h⟩
  | cons x l ih =>
    unfold sufE preE at *
    by_cases hx : x.key = k
    · refine .inr ⟨x, l, ?_, hx, List.mem_cons_self .., ?_⟩
      · rw [List.dropWhile_cons, if_neg (by simp [hx])]
      · rw [List.takeWhile_cons, if_neg (by simp [hx])]
        exact fun h => by cases h
    · have h1 : decide (x.key ≠ k) = true := decide_eq_true hx
      rcases ih with ⟨h2, h3⟩ | ⟨e, r, h2, h3, h4, h5⟩
      · refine .inl ⟨by rw [List.dropWhile_cons, if_pos h1, h2], fun h => ?_⟩
        rcases List.mem_cons.1 h with h | h
        · exact hx h.symm
        · exact h3 h
      · refine .inr ⟨e, r, by rw [List.dropWhile_cons, if_pos h1, h2], h3, List.mem_cons_of_mem _ h4, fun h => ?_⟩
        rw [List.takeWhile_cons, if_pos h1] at h
        rcases List.mem_cons.1 h with h | h
        · exact hx h.symm
        · exact h5 h

theorem getP_some {m : List (ByteArray × Int)} (nd : (keysM m).Nodup) {k : ByteArray} {v : Int} (h : (k, v) ∈ m) : getP m k = some v := by
  unfold getP
  induction m with
  | nil => cases h
  | cons x l ih =>
    have hn := List.nodup_cons.1 nd
    rw [List.find?_cons]
    rcases List.mem_cons.1 h with rfl | h
    · simp
    · have : x.1 ≠ k := fun e => hn.1 (by show x.1 ∈ _; rw [e]; exact List.mem_map.2 ⟨_, h, rfl⟩)
      rw [show decide (x.1 = k) = false from decide_eq_false this]
      exact ih hn.2 h
theorem getP_none {m : List (ByteArray × Int)} {k : ByteArray} : getP m k = none ↔ k ∉ keysM m := by
  unfold getP keysM
  rw [Option.map_eq_none_iff, List.find?_eq_none]
  constructor
  · intro h hk
    obtain ⟨x, hx, rfl⟩ := List.mem_map.1 hk
    exact absurd (decide_eq_true rfl) (h x hx)
  · intro h x hx hd
    exact h (List.mem_map.2 ⟨x, hx, of_decide_eq_true hd⟩)
theorem getP_mem {m : List (ByteArray × Int)} {k : ByteArray} {v : Int} (h : getP m k = some v) : (k, v) ∈ m := by
  unfold getP at h
  obtain ⟨x, hx, rfl⟩ := Option.map_eq_some_iff.1 h
  have h1 := List.find?_some hx
  have h2 : x.1 = k := of_decide_eq_true h1
  rw [← h2]
  exact List.mem_of_find?_eq_some hx

def getV (m : List (ByteArray × Int)) (k : ByteArray) : Int := (getP m k).getD 0
def getB (m : List (ByteArray × Int)) (k : ByteArray) : Bool := (getP m k).isSome

/-- What find finds. -/
theorem Tb.Is.found (h : T.Is S) (ok : S.Ok) (k : ByteArray) : (sufE k (T.chain k) = [] ∧ getV S.m k = 0 ∧ getB S.m k = false ∧ k ∉ keysM S.m) ∨
    ∃ e r, sufE k (T.chain k) = e :: r ∧ e.key = k ∧ e ∈ T.all ∧ e ∈ T.chain k ∧ getV S.m k = e.v ∧ getB S.m k = true ∧ k ∈ keysM S.m ∧ k ∉ keysE (preE k (T.chain k)) := by
  rcases suf_cases k (T.chain k) with ⟨h1, h2⟩ | ⟨e, r, h1, h2, h3, h4⟩
  · have h3 : k ∉ keysM S.m := fun hk => h2 (by rw [h.chain]; exact (ok.in_chain k).2 hk)
    have h4 := getP_none.2 h3
    exact .inl ⟨h1, by unfold getV; rw [h4]; rfl, by unfold getB; rw [h4]; rfl, h3⟩
  · have h5 := h.vals e (chain_sub h3)
    have h6 := getP_some ok.nd h5
    rw [h2] at h6
    exact .inr ⟨e, r, h1, h2, chain_sub h3, h3, by unfold getV; rw [h6]; rfl, by unfold getB; rw [h6]; rfl, by rw [← h2]; exact List.mem_map.2 ⟨_, h5, rfl⟩, h4⟩

theorem TabAt.keep {X : Nat → Prop} (s : TabAt w W t gn go T) (f : Fr X w w') (ht : ¬ X t) (hn : ∀ k, BOwn gn go T.now T.old k → ¬ X k) : TabAt w' W t gn go T := ⟨f.heap s.hd ht, s.bd.keep f hn, s.lo⟩
theorem TabIn.keep {X : Nat → Prop} (s : TabIn w W t K S) (f : Fr X w w') (hn : ∀ k, K k → ¬ X k) : TabIn w' W t K S := by
  obtain ⟨gn, go, T, h, i, hK⟩ := s
  exact ⟨gn, go, T, h.keep f (hn t ((hK t).2 (.inl rfl))) fun k hk => hn k ((hK k).2 (.inr hk)), i, hK⟩
theorem TabIn.nob (s : TabIn w W t K S) (f : Fr Nob w w') : TabIn w' W t K S := s.keep f fun _ _ h => h
theorem TabIn.lt (s : TabIn w W t K S) : ∀ k, K k → k < w.heap.size := by
  obtain ⟨gn, go, T, h, i, hK⟩ := s
  intro k hk
  rcases (hK k).1 hk with rfl | hk
  · exact lt_of_block h.hd
  · exact h.bd.lt hk
theorem TabIn.low (s : TabIn w W t K S) : ∀ k, K k → W ≤ k := by
  obtain ⟨gn, go, T, h, i, hK⟩ := s
  intro k hk
  rcases (hK k).1 hk with rfl | hk
  · exact h.lo
  · exact h.bd.low hk
theorem TabTo.trans {w'' : World} {S'' : KT} {K' : Nat → Prop} (h1 : Fr K w w') (h2 : ∀ k, K' k → K k ∨ w.heap.size ≤ k) (h : TabTo w' W t K' w'' S'') : TabTo w W t K w'' S'' := by
  obtain ⟨K2, a, b, c⟩ := h
  refine ⟨K2, a, h1.trans b fun k hk hk2 => ?_, fun k hk => ?_⟩
  · rcases h2 k hk2 with h | h
    · exact h
    · omega
  · rcases c k hk with h | h
    · exact h2 k h
    · have := h1.size
      exact .inr (by omega)

set_option maxHeartbeats 2000000 in
set_option maxRecDepth 100000 in
theorem get_eq (s : TabIn w W t K S) (ok : S.Ok) (k : ByteArray) (hs : k.size < 9223372036854775808) :
    Calls Try.prog 31 #[.pointer (some ⟨t, 0, none⟩), .string k] w fun e w' => e = .returned (.tuple #[.int .i64 (getV S.m k), .bool (getB S.m k)]) ∧ ∃ m, w' = w.drewN m := by
  obtain ⟨gn, go, T, h, i, hK⟩ := s
  have HF := Lib.hid (find_eq h (i.fit ok) k hs)
  obtain ⟨p1, p2, p3⟩ := h.slot_cell (i.fit ok) k
  rw [← pre_suf k (T.chain k)] at p1 p3
  obtain ⟨q1, q2⟩ := hook_cell p3 p1 p2
  rcases i.found ok k with ⟨h1, h2, h3, h4⟩ | ⟨e, r, h1, h2, h3, h4, h5, h6, h7, h8⟩
  · rw [h1] at q1
    rw [h2, h3]
    have q1' : w.cell? (hookA (T.slotA gn go k) (preE k (T.chain k))) = some (.pointer none) := q1
    clear q1 p1 p3 h1 h2 h3 h4 hK i h ok p2
    generalize hookA (T.slotA gn go k) (preE k (T.chain k)) = A at *
    go_enter Try.func31, Try.ntmps31
    go_wp2_with fail
    refine HF.out.mono ?_
    rintro e w' ⟨rfl, m, rfl⟩
    go_wp2_with fail
    go_ret2
    exact ⟨rfl, m, rfl⟩
  · rw [h1] at q1
    rw [h5, h6]
    have q1' : w.cell? (hookA (T.slotA gn go k) (preE k (T.chain k))) = some (.pointer (some ⟨e.b, 0, none⟩)) := q1
    rw [h1] at p3
    have h9 := cell_of_row w e.b 1 _ _ (0, 0) p3.tail.1
    have h10 : w.cell? ⟨e.b, 1, none⟩ = some (.int .i64 e.v) := h9
    clear q1 p1 p3 h1 h2 h3 h4 h5 h6 h7 h8 h9 hK i h ok p2
    generalize hookA (T.slotA gn go k) (preE k (T.chain k)) = A at *
    go_enter Try.func31, Try.ntmps31
    go_wp2_with fail
    refine HF.out.mono ?_
    rintro e w' ⟨rfl, m, rfl⟩
    go_wp2_with fail
    go_ret2
    exact ⟨rfl, m, rfl⟩
end

set_option maxHeartbeats 2000000 in
set_option maxRecDepth 100000 in
theorem new_bad (n : Int) (w : World) (h : n < 1 ∨ 1024 < n ∨ ((1 ≤ n ∧ n ≤ 1024) ∧ bits .and .i64 n (n - 1) ≠ 0)) :
    Calls Try.prog 22 #[.int .i64 n] w fun e w' => e = .returned (.tuple #[.pointer none, .int .i64 1]) ∧ w = w' := by
  rcases h with h | h | ⟨⟨h1, h2⟩, h⟩
  · go_enter Try.func22, Try.ntmps22
    go_wp2_with fail
    go_ret2
    exact ⟨rfl, rfl⟩
  · have h0 : ¬ n < 1 := by omega
    go_enter Try.func22, Try.ntmps22
    go_wp2_with fail
    go_ret2
    exact ⟨rfl, rfl⟩
  · have h0 : ¬ n < 1 := by omega
    have h3 : ¬ 1024 < n := by omega
    go_enter Try.func22, Try.ntmps22
    go_wp2_with fail
    go_ret2
    exact ⟨rfl, rfl⟩

theorem ptr_info : (Try.prog.info? 102).map (fun i => (i.zero.map Value.cells, i.size, i.bytes)) = some (some #[.pointer none], 1, 8) := by kernel_rfl
theorem made_ptrs (n : Nat) : madeCells #[.pointer none] n = (List.replicate n (Value.pointer none)).toArray := by
  unfold madeCells
  apply Array.ext
  · simp
  · intro i h1 h2
    simp [Nat.mod_one]
theorem news (n : Nat) : (List.replicate n ([] : List En)).map hookV = List.replicate n (.pointer none) := by rw [List.map_replicate]; rfl
set_option maxHeartbeats 2000000 in
set_option maxRecDepth 100000 in
theorem new_good (n : Nat) (w : World) (h1 : 1 ≤ n) (h2 : n ≤ 1024) (h : bits .and .i64 (n : Int) ((n : Int) - 1) = 0) :
    Calls Try.prog 22 #[.int .i64 n] w fun e w' => ∃ t K, e = .returned (.tuple #[.pointer (some ⟨t, 0, none⟩), .int .i64 0]) ∧ Hid (TabIn w' w.heap.size t K (newK n)) ∧ Hid (Fr Nob w w') := by
  have h0 : ¬ (n : Int) < 1 := by omega
  have h3 : ¬ 1024 < (n : Int) := by omega
  go_enter Try.func22, Try.ntmps22
  go_wp2_with (with_reducible refine wpList_make_all rfl _ _ 91 rfl 102 #[.pointer none] 1 8 Try.underlying91 ptr_info .i64 .i64 n rfl rfl (by omega) (by omega) ?_)
  intro cs hcs
  have hcs2 := hcs.out.trans (made_ptrs n)
  have HCS := Lib.hid hcs2
  clear hcs hcs2
  go_wp2_with fail
  go_ret2
  have hg : (w.alloc (.cells cs 102)).heap[w.heap.size]? = some (.cells (List.replicate n (Value.pointer none)).toArray 102 (0, 0)) := by rw [heap_alloc_new, HCS.out]
  have f1 : Fr Nob w (w.alloc (.cells cs 102)) := (Fr.refl Nob w).alloc _
  have hs1 : (w.alloc (.cells cs 102)).heap.size = w.heap.size + 1 := by simp
  generalize w.alloc (.cells cs 102) = w1 at *
  have hq := heap_alloc_new w1 (.cells #[.slice (some ⟨w.heap.size, 0, none⟩) n n, .slice none 0 0, .int .i64 0, .int .i64 0] 93)
  have f2 : Fr Nob w1 (w1.alloc (.cells #[.slice (some ⟨w.heap.size, 0, none⟩) n n, .slice none 0 0, .int .i64 0, .int .i64 0] 93)) := (Fr.refl Nob w1).alloc _
  have hg2 := f2.heap hg fun h => h
  rw [hs1] at hq
  generalize w1.alloc (.cells #[.slice (some ⟨w.heap.size, 0, none⟩) n n, .slice none 0 0, .int .i64 0, .int .i64 0] 93) = w2 at *
  refine ⟨w.heap.size + 1, _, rfl, Lib.hid ⟨w.heap.size, 0, ⟨List.replicate n [], [], 0, 0⟩, ⟨?_, ?_, Nat.le_succ _⟩, ⟨?_, rfl, rfl, rfl, ?_⟩, fun k => Iff.rfl⟩, Lib.hid (f1.trans' f2)⟩
  · show w2.heap[w.heap.size + 1]? = some (.cells #[.slice (some ⟨w.heap.size, 0, none⟩) (List.replicate n ([] : List En)).length (List.replicate n ([] : List En)).length, .slice none 0 0, .int .i64 0, .int .i64 0] 93 (0, 0))
    rw [List.length_replicate]
    exact hq
  · refine ⟨?_, fun h => absurd rfl h, fun h => absurd rfl h, ?_, (fun c hc => by cases hc), ?_, ?_⟩
    · show w2.ownsRow _ _ 1 (.slice (some ⟨w.heap.size, 0, none⟩) (List.replicate n ([] : List En)).length (List.replicate n ([] : List En)).length) (List.replicate n ([] : List En)).length ((List.replicate n ([] : List En)).map hookV)
      rw [List.length_replicate, news]
      refine ⟨by rw [List.length_replicate, Nat.mul_one], .inr ⟨w.heap.size, n, _, rfl, Nat.le_refl _, hg2, Nat.le_refl _, by have : maxLen = 9223372036854775807 := rfl; omega, by simp, by simp⟩⟩
    · intro c hc
      rw [(List.mem_replicate.1 hc).2]
      trivial
    · show (bOf ((List.replicate n ([] : List En)).flatten ++ [])).Nodup
      rw [replicate_flatten]
      exact List.nodup_nil
    · intro b hb
      replace hb : b ∈ bOf ((List.replicate n ([] : List En)).flatten ++ []) := hb
      rw [replicate_flatten] at hb
      cases hb
  · show (List.replicate n ([] : List En)).map keysE = List.replicate n []
    rw [List.map_replicate]; rfl
  · intro e he
    replace he : e ∈ (List.replicate n ([] : List En)).flatten ++ [] := he
    rw [replicate_flatten] at he
    cases he
end Go.Proofs.Ytpbbokpmlemboaa.Tb
