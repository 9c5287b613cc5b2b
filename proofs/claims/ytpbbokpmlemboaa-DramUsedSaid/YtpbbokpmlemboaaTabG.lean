/-
  The table: what a new entry makes of it; contract of Set.
-/
import Derived.Test.YtpbbokpmlemboaaTabF
import Derived.StillTailTactics
namespace Go.Proofs.Ytpbbokpmlemboaa.Tb
open Go.RowKit

def Tb.put (T : Tb) (e : En) : Tb := if T.inOld e.key then { T with old := pushE T.old e } else { T with now := pushE T.now e }
theorem Tb.put_left (T : Tb) (e : En) : (T.put e).left = T.left ∧ (T.put e).n = T.n ∧ (T.put e).now.length = T.now.length ∧ (T.put e).old.length = T.old.length := by
  unfold Tb.put
  split
  · exact ⟨rfl, rfl, rfl, pushE_len _ _⟩
  · exact ⟨rfl, rfl, pushE_len _ _, rfl⟩

section
variable {w w' : World} {W t gn go : Nat} {now old : List (List En)} {nrow orow : List Value} {K : Nat → Prop} {T : Tb} {S : KT}

/-- A new entry at the head of a new chain. -/
theorem Body.addN (s : Body w W gn go now old (now.map hookV) orow) {e : En} (hp : 0 < now.length) (he : w.heap[e.b]? = some (.cells #[.string e.key, .int .i64 e.v, hookV (now.getD (hashK e.key % now.length) [])] 106 (0, 0))) (hn : e.b ∉ bOf (now.flatten ++ old.flatten)) (hW : W ≤ e.b) :
    Body (w.setCell ⟨gn, hashK e.key % now.length, none⟩ (.pointer (some ⟨e.b, 0, none⟩))) W gn go (pushE now e) old ((pushE now e).map hookV) orow := by
  have hl := Nat.mod_lt (hashK e.key) hp
  have hnow : now[hashK e.key % now.length]? = some ([] ++ now.getD (hashK e.key % now.length) []) := by
    rw [List.nil_append, List.getD_eq_getElem?_getD, List.getElem?_eq_getElem hl]; rfl
  have hpm : ((pushE now e).flatten ++ old.flatten).Perm (e :: (now.flatten ++ old.flatten)) := (pushE_perm e hp).append_right _
  exact s.hookN (i := hashK e.key % now.length) (pre := []) (rest := now.getD (hashK e.key % now.length) []) (rest' := e :: now.getD (hashK e.key % now.length) []) hnow
    ⟨he, s.chn _ (by have := List.mem_of_getElem? hnow; exact this)⟩
    ((hpm.map En.b).nodup_iff.2 (List.nodup_cons.2 ⟨hn, s.nd⟩))
    (fun b hb => by
      rcases List.mem_cons.1 hb with rfl | hb
      · exact hW
      · exact s.lo b (by rw [bOf_app, List.mem_append]; exact .inl (mem_b.2 ⟨_, List.mem_of_getElem? hnow, hb⟩)))

/-- The table, but for its head, behind the put of an entry that was just laid. -/
theorem TabAt.put (h : TabAt w W t gn go T) (F : T.Fit) (k : ByteArray) (v : Int) :
    Body ((w.alloc (.cells #[.string k, .int .i64 v, hookV (T.chain k)] 106)).setCell (T.slotA gn go k) (.pointer (some ⟨w.heap.size, 0, none⟩))) W gn go (T.put ⟨w.heap.size, k, v⟩).now (T.put ⟨w.heap.size, k, v⟩).old ((T.put ⟨w.heap.size, k, v⟩).now.map hookV) ((T.put ⟨w.heap.size, k, v⟩).old.map hookV) ∧
    ((w.alloc (.cells #[.string k, .int .i64 v, hookV (T.chain k)] 106)).setCell (T.slotA gn go k) (.pointer (some ⟨w.heap.size, 0, none⟩))).heap[t]? = w.heap[t]? ∧
    Fr (fun k => k = t ∨ BOwn gn go T.now T.old k) w ((w.alloc (.cells #[.string k, .int .i64 v, hookV (T.chain k)] 106)).setCell (T.slotA gn go k) (.pointer (some ⟨w.heap.size, 0, none⟩))) := by
  have f1 : Fr Nob w (w.alloc (.cells #[.string k, .int .i64 v, hookV (T.chain k)] 106)) := (Fr.refl Nob w).alloc _
  have hn := heap_alloc_new w (.cells #[.string k, .int .i64 v, hookV (T.chain k)] 106)
  have B1 := h.bd.keep f1 fun _ _ h => h
  have hX : w.heap.size ∉ bOf (T.now.flatten ++ T.old.flatten) := fun hb => by
    have := h.bd.lt (.inr (.inr hb))
    omega
  have hW : W ≤ w.heap.size := by have := lt_of_block h.hd; have := h.lo; omega
  have ht1 := f1.heap h.hd fun h => h
  have hsame := f1.block t (lt_of_block h.hd) fun h => h
  generalize w.alloc (.cells #[.string k, .int .i64 v, hookV (T.chain k)] 106) = w1 at *
  unfold Tb.slotA Tb.put
  by_cases hin : T.inOld k
  · have hin' : T.inOld (⟨w.heap.size, k, v⟩ : En).key := hin
    rw [if_pos hin, if_pos hin']
    have hop : 0 < T.old.length := by have := F.le; have := hin.1; omega
    have hne : T.old ≠ [] := by intro e; rw [e] at hop; exact absurd hop (Nat.lt_irrefl _)
    have hnn : T.now ≠ [] := by intro e; have := F.pos; rw [e] at this; exact absurd this (Nat.lt_irrefl _)
    have hch : T.chain k = T.old.getD (hashK k % T.old.length) [] := if_pos hin
    rw [hch] at hn
    have hpe : pushE T.old ⟨w.heap.size, k, v⟩ ≠ [] := by intro e; have := congrArg List.length e; rw [pushE_len] at this; simp at this; exact hne this
    have B2 := (B1.swap hne).addN (e := ⟨w.heap.size, k, v⟩) hop hn (fun hb => hX ((List.Perm.map En.b List.perm_append_comm).mem_iff.1 hb)) hW
    refine ⟨B2.swap hnn, ?_, (f1.nob (S := fun k => k = t ∨ BOwn gn go T.now T.old k)).setCell ⟨go, hashK k % T.old.length, none⟩ (fun _ => .inr (.inr (.inl ⟨hne, rfl⟩))) _⟩
    rw [Below.heap_setCell _ _ _ _ ?_, hsame]
    obtain ⟨⟨cur, h2⟩, _⟩ := row_is (B1.od hne)
    exact heap_type ht1 h2 (by decide)
  · have hin' : ¬ T.inOld (⟨w.heap.size, k, v⟩ : En).key := hin
    rw [if_neg hin, if_neg hin']
    have hch : T.chain k = T.now.getD (hashK k % T.now.length) [] := if_neg hin
    rw [hch] at hn
    refine ⟨B1.addN (e := ⟨w.heap.size, k, v⟩) F.pos hn hX hW, ?_, (f1.nob (S := fun k => k = t ∨ BOwn gn go T.now T.old k)).setCell ⟨gn, hashK k % T.now.length, none⟩ (fun _ => .inr (.inl rfl)) _⟩
    rw [Below.heap_setCell _ _ _ _ ?_, hsame]
    obtain ⟨⟨cur, h2⟩, _⟩ := row_is B1.nw
    exact heap_type ht1 h2 (by decide)

theorem Body.top (s : Body w W gn go now old nrow orow) {cs : Array Value} (h : w.heap[t]? = some (.cells cs 93 (0, 0))) : ∀ k, BOwn gn go now old k → ¬ One t k := by
  rintro k hk e
  have e : k = t := e
  rcases hk with hk | ⟨ho, hk⟩ | hk
  · obtain ⟨⟨cur, h2⟩, _⟩ := row_is s.nw
    exact heap_type h h2 (by decide) (e.symm.trans hk)
  · obtain ⟨⟨cur, h2⟩, _⟩ := row_is (s.od ho)
    exact heap_type h h2 (by decide) (e.symm.trans hk)
  · obtain ⟨cs, h2⟩ := s.is hk
    exact heap_type h h2 (by decide) e.symm

theorem put_is (i : T.Is S) (e : En) : ((⟨(T.put e).now, (T.put e).old, T.left, T.n + 1⟩ : Tb)).Is { putK S e.key with m := S.m ++ [(e.key, e.v)] } := by
  have hin := i.inOld e.key
  unfold Tb.put putK
  by_cases h : T.inOld e.key
  · rw [if_pos h, if_pos (hin.1 h)]
    refine ⟨i.now, ?_, i.left, ?_, ?_⟩
    · show (pushE T.old e).map keysE = _
      rw [pushE_keys, i.old]
    · show T.n + 1 = (S.m ++ [(e.key, e.v)]).length
      rw [i.n]; simp
    · intro x hx
      show (x.key, x.v) ∈ S.m ++ [(e.key, e.v)]
      rw [List.mem_append]
      have hop : 0 < T.old.length ∨ T.old.length = 0 := by omega
      have hx : x ∈ T.now.flatten ++ (pushE T.old e).flatten := hx
      rcases hop with hop | hop
      · rcases List.mem_append.1 hx with hx | hx
        · exact .inl (i.vals x (List.mem_append.2 (.inl hx)))
        · rcases List.mem_cons.1 ((pushE_perm e hop).mem_iff.1 hx) with rfl | hx
          · exact .inr (List.mem_singleton.2 rfl)
          · exact .inl (i.vals x (List.mem_append.2 (.inr hx)))
      · have : pushE T.old e = T.old := by unfold pushE; rw [List.set_eq_of_length_le (by omega)]
        rw [this] at hx
        exact .inl (i.vals x hx)
  · rw [if_neg h, if_neg (fun h2 => h (hin.2 h2))]
    refine ⟨?_, i.old, i.left, ?_, ?_⟩
    · show (pushE T.now e).map keysE = _
      rw [pushE_keys, i.now]
    · show T.n + 1 = (S.m ++ [(e.key, e.v)]).length
      rw [i.n]; simp
    · intro x hx
      show (x.key, x.v) ∈ S.m ++ [(e.key, e.v)]
      rw [List.mem_append]
      have hop : 0 < T.now.length ∨ T.now.length = 0 := by omega
      have hx : x ∈ (pushE T.now e).flatten ++ T.old.flatten := hx
      rcases hop with hop | hop
      · rcases List.mem_append.1 hx with hx | hx
        · rcases List.mem_cons.1 ((pushE_perm e hop).mem_iff.1 hx) with rfl | hx
          · exact .inr (List.mem_singleton.2 rfl)
          · exact .inl (i.vals x (List.mem_append.2 (.inl hx)))
        · exact .inl (i.vals x (List.mem_append.2 (.inr hx)))
      · have : pushE T.now e = T.now := by unfold pushE; rw [List.set_eq_of_length_le (by omega)]
        rw [this] at hx
        exact .inl (i.vals x hx)

/-- The bucket rows behind a doubling. -/
theorem Body.grown {g n : Nat} (s : Body w W gn go now [] (now.map hookV) []) (f : Fr (One t) w w') (ht : ∀ k, BOwn gn go now [] k → ¬ One t k) (hg : gn ≠ g) (hr : w'.ownsRow W 102 1 (.slice (some ⟨g, 0, none⟩) n n) n (List.replicate n (.pointer none))) :
    Body w' W g gn (List.replicate n []) now ((List.replicate n []).map hookV) (now.map hookV) := by
  have s2 := s.keep f ht
  have hnd := s.nd
  have hlo := s.lo
  rw [List.flatten_nil, List.append_nil] at hnd hlo
  refine ⟨?_, fun _ => s2.nw, fun _ e => hg e.symm, ?_, s2.chn, ?_, ?_⟩
  · rw [List.length_replicate, news]
    exact hr
  · intro c hc
    rw [(List.mem_replicate.1 hc).2]
    trivial
  · rw [replicate_flatten]
    exact hnd
  · rw [replicate_flatten]
    exact hlo

set_option maxHeartbeats 8000000 in
set_option maxRecDepth 100000 in
theorem set_old (s : TabIn w W t K S) (ok : S.Ok) (k : ByteArray) (v : Int) (hs : k.size < 9223372036854775808) (hk : k ∈ keysM S.m) :
    Calls Try.prog 29 #[.pointer (some ⟨t, 0, none⟩), .string k, .int .i64 v] w fun e w' => e = .returned (.bool false) ∧ TabTo w W t K w' (setK S k v) := by
  have HM := Lib.hid (move_eq s ok)
  have hse : setK S k v = { moveK S with m := updP (moveK S).m k v } := by unfold setK; rw [if_pos (by rw [moveK_m]; exact hk)]
  rw [hse]
  go_enter Try.func29, Try.ntmps29
  go_wp2_with fail
  refine HM.out.mono ?_
  rintro e w1 ⟨rfl, K1, s1, f1, n1⟩
  have ok1 := moveK_ok ok
  have hk1 : k ∈ keysM (moveK S).m := by rw [moveK_m]; exact hk
  obtain ⟨gn, go, T, h, i, hK⟩ := s1
  rcases i.found ok1 k with ⟨_, _, _, h4⟩ | ⟨e, r, h1, h2, h3, h4, h5, h6, h7, h8⟩
  · exact absurd hk1 h4
  obtain ⟨p1, p2, p3⟩ := h.slot_cell (i.fit ok1) k
  rw [← pre_suf k (T.chain k)] at p1 p3
  obtain ⟨q1, q2⟩ := hook_cell p3 p1 p2
  rw [h1] at q1
  have q1' : w1.cell? (hookA (T.slotA gn go k) (preE k (T.chain k))) = some (.pointer (some ⟨e.b, 0, none⟩)) := q1
  have HF := Lib.hid (find_eq h (i.fit ok1) k hs)
  rw [h1] at p3
  have ef := frozen_of_row w1 e.b 1 _ _ p3.tail.1
  have e1 : w1.cell? ⟨e.b, 1, none⟩ = some (.int .i64 e.v) := cell_of_row w1 e.b 1 _ _ (0, 0) p3.tail.1
  have HR : Hid (∀ m, TabTo w W t K ((w1.drewN m).setCell ⟨e.b, 1, none⟩ (.int .i64 v)) { moveK S with m := updP (moveK S).m k v }) := Lib.hid fun m => by
    have fq : Fr Nob w1 (w1.drewN m) := (Fr.refl Nob w1).drewN m
    have h' := h.keep fq (fun h => h) (fun _ _ h => h)
    have := h'.upd i ok1 hK h3 v
    rw [h2] at this
    exact TabTo.trans (f1.trans' fq.nob) (fun k hk => n1 k hk) (by
      obtain ⟨K', a, b, c⟩ := this
      refine ⟨K', a, b, fun k hk => ?_⟩
      rcases c k hk with h | h
      · exact .inl h
      · exact .inr h)
  clear q1 p1 p3 h1 h2 h3 h4 h5 h6 h7 h8 hK i h p2 ok1 n1 f1 hk1 HM hse s
  generalize hookA (T.slotA gn go k) (preE k (T.chain k)) = A at *
  go_wp2_with fail
  refine HF.out.mono ?_
  rintro e w2 ⟨rfl, m, rfl⟩
  go_wp2_with fail
  go_ret
  exact ⟨rfl, HR.out m⟩
end
end Go.Proofs.Ytpbbokpmlemboaa.Tb
