/-
  The table: contract of Delete.
-/
import Derived.Test.YtpbbokpmlemboaaTabH
namespace Go.Proofs.Ytpbbokpmlemboaa.Tb
open Go.RowKit

def dropE (k : ByteArray) (c : List En) : List En := c.filter fun e => decide (e.key ≠ k)
theorem dropE_keys (k : ByteArray) (c : List En) : keysE (dropE k c) = dropK k (keysE c) := by
  unfold keysE dropE dropK
  rw [List.filter_map]
  rfl
theorem dropE_other {k : ByteArray} {c : List En} (h : k ∉ keysE c) : dropE k c = c := by
  unfold dropE
  rw [List.filter_eq_self]
  intro e he
  exact decide_eq_true fun e1 => h (by rw [← e1]; exact List.mem_map.2 ⟨e, he, rfl⟩)
theorem dropE_at {k : ByteArray} {pre r : List En} {e : En} (he : e.key = k) (hn : (keysE (pre ++ e :: r)).Nodup) : dropE k (pre ++ e :: r) = pre ++ r := by
  unfold keysE at hn
  rw [List.map_append, List.map_cons, he] at hn
  obtain ⟨_, h2, h3⟩ := List.nodup_append.1 hn
  have h4 := List.nodup_cons.1 h2
  have h5 : k ∉ keysE pre := fun h => h3 k h k (List.mem_cons_self ..) rfl
  have h6 : dropE k (pre ++ e :: r) = dropE k pre ++ dropE k (e :: r) := by unfold dropE; rw [List.filter_append]
  rw [h6, dropE_other h5]
  have h7 : dropE k (e :: r) = dropE k r := by unfold dropE; rw [List.filter_cons, if_neg (by simp [he])]
  rw [h7, dropE_other h4.1]
theorem nodup_sub {l : List (List En)} {c : List En} (hc : c ∈ l) (h : (keysE l.flatten).Nodup) : (keysE c).Nodup := by
  induction l with
  | nil => cases hc
  | cons d l ih =>
    rw [List.flatten_cons] at h
    unfold keysE at h
    rw [List.map_append] at h
    rcases List.mem_cons.1 hc with rfl | hc
    · exact (List.nodup_append.1 h).1
    · exact ih hc (List.nodup_append.1 h).2.1

section
variable {w w' : World} {W t gn go : Nat} {now old : List (List En)} {nrow orow : List Value} {K : Nat → Prop} {T : Tb} {S : KT}

theorem map_drop_set {l : List (List En)} {j : Nat} {k : ByteArray} {pre r : List En} {e : En} (hj : l[j]? = some (pre ++ e :: r)) (he : e.key = k) (hn : (keysE l.flatten).Nodup) (ho : ∀ i, i ≠ j → k ∉ keysE (l.getD i [])) :
    l.map (dropE k) = l.set j (pre ++ r) := by
  apply List.ext_getElem?
  intro i
  rw [List.getElem?_map, List.getElem?_set]
  by_cases hij : j = i
  · subst hij
    rw [if_pos rfl, hj, if_pos (List.getElem?_eq_some_iff.1 hj).1]
    show some (dropE k (pre ++ e :: r)) = _
    rw [dropE_at he (nodup_sub (List.mem_of_getElem? hj) hn)]
  · rw [if_neg hij]
    cases hi : l[i]? with
    | none => rfl
    | some c =>
      have := ho i fun e => hij e.symm
      rw [List.getD_eq_getElem?_getD, hi] at this
      replace this : k ∉ keysE c := this
      show some (dropE k c) = some c
      rw [dropE_other this]

theorem map_drop_none {l : List (List En)} {k : ByteArray} (ho : ∀ i, k ∉ keysE (l.getD i [])) : l.map (dropE k) = l := by
  apply List.ext_getElem?
  intro i
  rw [List.getElem?_map]
  cases hi : l[i]? with
  | none => rfl
  | some c =>
    have := ho i
    rw [List.getD_eq_getElem?_getD, hi] at this
    replace this : k ∉ keysE c := this
    show some (dropE k c) = some c
    rw [dropE_other this]
theorem flat_drop (k : ByteArray) (l : List (List En)) : (l.map (dropE k)).flatten = dropE k l.flatten := by
  induction l with
  | nil => rfl
  | cons c l ih => rw [List.map_cons, List.flatten_cons, List.flatten_cons, ih]; unfold dropE; rw [List.filter_append]
theorem drop_perm {l : List En} {k : ByteArray} {e : En} (he : e ∈ l) (hk : e.key = k) (hn : (keysE l).Nodup) : l.Perm (e :: dropE k l) := by
  obtain ⟨pre, r, rfl⟩ := List.append_of_mem he
  rw [dropE_at hk hn]
  exact List.perm_middle

/-- The table, but for its head, behind the loss of a key. -/
theorem TabAt.del (h : TabAt w W t gn go T) (i : T.Is S) (ok : S.Ok) (k : ByteArray) {e : En} {r : List En} (hs : sufE k (T.chain k) = e :: r) (hek : e.key = k) :
    Body (w.setCell (hookA (T.slotA gn go k) (preE k (T.chain k))) (hookV r)) W gn go (T.now.map (dropE k)) (T.old.map (dropE k)) ((T.now.map (dropE k)).map hookV) ((T.old.map (dropE k)).map hookV) ∧
    (w.setCell (hookA (T.slotA gn go k) (preE k (T.chain k))) (hookV r)).heap[t]? = w.heap[t]? ∧
    Fr (fun k => k = t ∨ BOwn gn go T.now T.old k) w (w.setCell (hookA (T.slotA gn go k) (preE k (T.chain k))) (hookV r)) := by
  have F := i.fit ok
  have hch := pre_suf k (T.chain k)
  rw [hs] at hch
  have hkn : (keysE T.all).Nodup := i.kn ok
  have hkn' : (keysE T.now.flatten).Nodup ∧ (keysE T.old.flatten).Nodup := by
    unfold Tb.all keysE at hkn
    rw [List.map_append] at hkn
    exact ⟨(List.nodup_append.1 hkn).1, (List.nodup_append.1 hkn).2.1⟩
  have hb : ∀ x, x ∈ bOf (preE k (T.chain k)) → x ∈ bOf (T.now.flatten ++ T.old.flatten) := by
    intro x hx
    obtain ⟨y, hy, rfl⟩ := List.mem_map.1 hx
    exact List.mem_map.2 ⟨y, chain_sub (T := T) (k := k) (by rw [← hch]; exact List.mem_append.2 (.inl hy)), rfl⟩
  have hrr : ∀ x, x ∈ bOf r → W ≤ x := by
    intro x hx
    obtain ⟨y, hy, rfl⟩ := List.mem_map.1 hx
    exact h.bd.lo _ (List.mem_map.2 ⟨y, chain_sub (T := T) (k := k) (by rw [← hch]; exact List.mem_append.2 (.inr (List.mem_cons_of_mem _ hy))), rfl⟩)
  obtain ⟨_, _, hcw⟩ := h.slot_cell F k
  have hrw : ChAt w r := by
    rw [← hch] at hcw
    exact hcw.tail.2
  have hnd2 : (bOf ((T.now.map (dropE k)).flatten ++ (T.old.map (dropE k)).flatten)).Nodup := by
    have hmem : e ∈ T.all := chain_sub (T := T) (k := k) (by rw [← hch]; exact List.mem_append.2 (.inr (List.mem_cons_self ..)))
    have hp := drop_perm hmem hek hkn
    have hq : dropE k T.all = (T.now.map (dropE k)).flatten ++ (T.old.map (dropE k)).flatten := by
      rw [flat_drop, flat_drop]
      unfold Tb.all dropE
      rw [List.filter_append]
    rw [← hq]
    exact (List.nodup_cons.1 ((hp.map En.b).nodup_iff.1 h.bd.nd)).2
  have hAsel : ∃ o, hookA (T.slotA gn go k) (preE k (T.chain k)) = ⟨(hookA (T.slotA gn go k) (preE k (T.chain k))).block, o, none⟩ := by
    have h1 : (T.slotA gn go k).spot = none := by unfold Tb.slotA; split <;> rfl
    have := hookA_form (T.slotA gn go k) (preE k (T.chain k)) h1
    generalize hookA (T.slotA gn go k) (preE k (T.chain k)) = A at this ⊢
    obtain ⟨x, y, z⟩ := A
    cases this
    exact ⟨y, rfl⟩
  have hown : BOwn gn go T.now T.old (hookA (T.slotA gn go k) (preE k (T.chain k))).block := by
    rcases hookA_block (T.slotA gn go k) (preE k (T.chain k)) with h1 | h1
    · rw [h1]
      unfold Tb.slotA
      split
      next hin =>
        have hop : T.old ≠ [] := by intro e; have h1 := F.le; have h2 := hin.1; rw [e] at h1; simp at h1; omega
        exact .inr (.inl ⟨hop, rfl⟩)
      · exact .inl rfl
    · exact .inr (.inr (hb _ h1))
  have hht : t ≠ (hookA (T.slotA gn go k) (preE k (T.chain k))).block := fun e1 => h.bd.top h.hd _ hown e1.symm
  refine ⟨?_, Below.heap_setCell _ _ _ _ hht, (Fr.refl _ w).setCell _ (fun _ => .inr hown) _⟩
  by_cases hin : T.inOld k
  · have hA : T.slotA gn go k = ⟨go, hashK k % T.old.length, none⟩ := if_pos hin
    have hC : T.chain k = T.old.getD (hashK k % T.old.length) [] := if_pos hin
    have hop : 0 < T.old.length := by have := F.le; have := hin.1; omega
    have hne : T.old ≠ [] := by intro e; rw [e] at hop; exact absurd hop (Nat.lt_irrefl _)
    have hnn : T.now ≠ [] := by intro e; have := F.pos; rw [e] at this; exact absurd this (Nat.lt_irrefl _)
    have hlt := Nat.mod_lt (hashK k) hop
    have hg : T.old[hashK k % T.old.length]? = some (preE k (T.chain k) ++ e :: r) := by
      rw [hch, hC, List.getD_eq_getElem?_getD, List.getElem?_eq_getElem hlt]; rfl
    have h1 : T.old.map (dropE k) = T.old.set (hashK k % T.old.length) (preE k (T.chain k) ++ r) := map_drop_set hg hek hkn'.2 fun i' hi' hk => by
      have hk2 : k ∈ S.old.getD i' [] := by rw [← i.old, map_getD _ _ rfl]; exact hk
      have := (ok.oldAt i' k hk2).1
      rw [← i.oldL] at this
      exact hi' this.symm
    have h2 : T.now.map (dropE k) = T.now := map_drop_none fun i' hk => by
      have hk2 : k ∈ S.now.getD i' [] := by rw [← i.now, map_getD _ _ rfl]; exact hk
      have h3 := (i.inOld k).1 hin
      have := ok.nowIn h3.1 k (mem_flatten_getD.2 ⟨i', getD_len hk2, hk2⟩)
      have := h3.2
      omega
    rw [h1, h2] at hnd2 ⊢
    rw [hA]
    exact ((h.bd.swap hne).hookN hg hrw ((List.Perm.map En.b List.perm_append_comm).nodup_iff.1 hnd2) hrr).swap hnn
  · have hA : T.slotA gn go k = ⟨gn, hashK k % T.now.length, none⟩ := if_neg hin
    have hC : T.chain k = T.now.getD (hashK k % T.now.length) [] := if_neg hin
    have hlt := Nat.mod_lt (hashK k) F.pos
    have hg : T.now[hashK k % T.now.length]? = some (preE k (T.chain k) ++ e :: r) := by
      rw [hch, hC, List.getD_eq_getElem?_getD, List.getElem?_eq_getElem hlt]; rfl
    have h1 : T.now.map (dropE k) = T.now.set (hashK k % T.now.length) (preE k (T.chain k) ++ r) := map_drop_set hg hek hkn'.1 fun i' hi' hk => by
      have hk2 : k ∈ S.now.getD i' [] := by rw [← i.now, map_getD _ _ rfl]; exact hk
      have := ok.nowAt i' k hk2
      rw [← i.nowL] at this
      exact hi' this.symm
    have h2 : T.old.map (dropE k) = T.old := map_drop_none fun i' hk => by
      have hk2 : k ∈ S.old.getD i' [] := by rw [← i.old, map_getD _ _ rfl]; exact hk
      have h3 := ok.oldAt i' k hk2
      refine hin ((i.inOld k).2 ⟨?_, by rw [h3.1]; exact h3.2⟩)
      by_cases h0 : S.left = 0
      · rw [ok.nil h0] at hk2
        cases hk2
      · omega
    rw [h1, h2] at hnd2 ⊢
    rw [hA]
    exact h.bd.hookN hg hrw hnd2 hrr

theorem del_is (i : T.Is S) (ok : S.Ok) {k : ByteArray} (hk : k ∈ keysM S.m) : (⟨T.now.map (dropE k), T.old.map (dropE k), T.left, T.n - 1⟩ : Tb).Is { S with now := S.now.map (dropK k), old := S.old.map (dropK k), m := delP S.m k } := by
  have hmm : ∀ l : List (List En), (l.map (dropE k)).map keysE = (l.map keysE).map (dropK k) := fun l => by
    rw [List.map_map, List.map_map]
    exact List.map_congr_left fun c _ => dropE_keys k c
  refine ⟨?_, ?_, i.left, ?_, ?_⟩
  · show (T.now.map (dropE k)).map keysE = S.now.map (dropK k)
    rw [hmm, i.now]
  · show (T.old.map (dropE k)).map keysE = S.old.map (dropK k)
    rw [hmm, i.old]
  · show T.n - 1 = (delP S.m k).length
    rw [i.n]
    have nd := ok.nd
    revert nd hk
    generalize S.m = m
    intro hk nd
    have h1 : (keysM (delP m k)).length = (keysM m).length - 1 := by
      rw [delP_keys]
      obtain ⟨a, b, hab⟩ := List.append_of_mem hk
      rw [hab] at nd ⊢
      obtain ⟨_, h2, h3⟩ := List.nodup_append.1 nd
      have h4 := (List.nodup_cons.1 h2).1
      have h5 : k ∉ a := fun h => h3 k h k (List.mem_cons_self ..) rfl
      have hs : ∀ l : List ByteArray, k ∉ l → dropK k l = l := fun l hl => by
        unfold dropK
        rw [List.filter_eq_self]
        exact fun x hx => decide_eq_true fun e => hl (e ▸ hx)
      have h6 : dropK k (a ++ k :: b) = dropK k a ++ dropK k b := by
        unfold dropK
        rw [List.filter_append, List.filter_cons, if_neg (by simp)]
      rw [h6, hs a h5, hs b h4]
      simp
    rw [keysM_len, keysM_len] at h1
    exact h1.symm
  · intro x hx
    have hx : x ∈ (T.now.map (dropE k)).flatten ++ (T.old.map (dropE k)).flatten := hx
    rw [flat_drop, flat_drop] at hx
    have hx2 : x ∈ dropE k T.all := by
      unfold Tb.all dropE
      rw [List.filter_append]
      exact hx
    obtain ⟨h1, h2⟩ := List.mem_filter.1 hx2
    exact List.mem_filter.2 ⟨i.vals x h1, h2⟩

set_option maxHeartbeats 8000000 in
set_option maxRecDepth 100000 in
theorem del_none (s : TabIn w W t K S) (ok : S.Ok) (k : ByteArray) (hs : k.size < 9223372036854775808) (hk : k ∉ keysM S.m) :
    Calls Try.prog 59 #[.pointer (some ⟨t, 0, none⟩), .string k] w fun e w' => e = .returned (.bool false) ∧ TabTo w W t K w' (delK S k) := by
  have HM := Lib.hid (move_eq s ok)
  have hse : delK S k = moveK S := by unfold delK; rw [if_neg (by rw [moveK_m]; exact hk)]
  rw [hse]
  go_enter Try.func59, Try.ntmps59
  go_wp2_with fail
  refine HM.out.mono ?_
  rintro e w1 ⟨rfl, K1, s1, f1, n1⟩
  have ok1 := moveK_ok ok
  have hk1 : k ∉ keysM (moveK S).m := by rw [moveK_m]; exact hk
  have S1 := s1
  obtain ⟨gn, go, T, h, i, hK⟩ := s1
  have h1 : sufE k (T.chain k) = [] := by
    rcases i.found ok1 k with ⟨h1, _⟩ | ⟨e, r, _, _, _, _, _, _, h7, _⟩
    · exact h1
    · exact absurd h7 hk1
  obtain ⟨p1, p2, p3⟩ := h.slot_cell (i.fit ok1) k
  rw [← pre_suf k (T.chain k)] at p1 p3
  obtain ⟨q1, q2⟩ := hook_cell p3 p1 p2
  rw [h1] at q1
  have q1' : w1.cell? (hookA (T.slotA gn go k) (preE k (T.chain k))) = some (.pointer none) := q1
  have HF := Lib.hid (find_eq h (i.fit ok1) k hs)
  have HR : Hid (∀ m, TabTo w W t K (w1.drewN m) (moveK S)) := Lib.hid fun m => ⟨K1, S1.nob ((Fr.refl Nob w1).drewN m), f1.trans' ((Fr.refl Nob w1).drewN m).nob, n1⟩
  clear q1 p1 p2 p3 h1 hK i h ok1 n1 f1 hk1 s q2 HM hse S1
  generalize hookA (T.slotA gn go k) (preE k (T.chain k)) = A at *
  go_wp2_with fail
  refine HF.out.mono ?_
  rintro e w2 ⟨rfl, m, rfl⟩
  go_wp2_with fail
  go_ret
  exact ⟨rfl, HR.out m⟩

set_option maxHeartbeats 8000000 in
set_option maxRecDepth 100000 in
theorem del_some (s : TabIn w W t K S) (ok : S.Ok) (k : ByteArray) (hs : k.size < 9223372036854775808) (hk : k ∈ keysM S.m) (hm : S.m.length ≤ 1000000) :
    Calls Try.prog 59 #[.pointer (some ⟨t, 0, none⟩), .string k] w fun e w' => e = .returned (.bool true) ∧ TabTo w W t K w' (delK S k) := by
  have HM := Lib.hid (move_eq s ok)
  have hse : delK S k = { moveK S with now := (moveK S).now.map (dropK k), old := (moveK S).old.map (dropK k), m := delP (moveK S).m k } := by unfold delK; rw [if_pos (by rw [moveK_m]; exact hk)]
  rw [hse]
  obtain ⟨S2, hS2⟩ : ∃ S2 : KT, S2 = { moveK S with now := (moveK S).now.map (dropK k), old := (moveK S).old.map (dropK k), m := delP (moveK S).m k } := ⟨_, rfl⟩
  rw [← hS2]
  have HS2 := Lib.hid hS2
  clear hse hS2
  go_enter Try.func59, Try.ntmps59
  go_wp2_with fail
  refine HM.out.mono ?_
  rintro e w1 ⟨rfl, K1, s1, f1, n1⟩
  have ok1 := moveK_ok ok
  have hk1 : k ∈ keysM (moveK S).m := by rw [moveK_m]; exact hk
  have hm1 : (moveK S).m.length ≤ 1000000 := by rw [moveK_m]; exact hm
  obtain ⟨gn, go, T, h, i, hK⟩ := s1
  obtain ⟨e, r, h1, h2, h3⟩ : ∃ e r, sufE k (T.chain k) = e :: r ∧ e.key = k ∧ e ∈ T.all := by
    rcases i.found ok1 k with ⟨_, _, _, h4⟩ | ⟨e, r, h1, h2, h3, _⟩
    · exact absurd hk1 h4
    · exact ⟨e, r, h1, h2, h3⟩
  have HF := Lib.hid (find_eq h (i.fit ok1) k hs)
  have H := Lib.hid h
  have I := Lib.hid i
  have OK := Lib.hid ok1
  have HK := Lib.hid hK
  have F1 := Lib.hid f1
  have N1 := Lib.hid n1
  have H1 := Lib.hid h1
  have H2 := Lib.hid h2
  have H3 := Lib.hid h3
  obtain ⟨p1, p2, p3⟩ := h.slot_cell (i.fit ok1) k
  rw [← pre_suf k (T.chain k)] at p1 p3
  obtain ⟨q1, q2⟩ := hook_cell p3 p1 p2
  rw [h1] at q1
  have q1' : w1.cell? (hookA (T.slotA gn go k) (preE k (T.chain k))) = some (.pointer (some ⟨e.b, 0, none⟩)) := q1
  clear q1 p1 p2 p3 h1 h2 h3 hK i h ok1 n1 f1 hk1 s q2 HM
  go_wp2_with fail
  refine HF.out.mono ?_
  rintro e' w2 ⟨rfl, m, rfl⟩
  have fq : Hid (Fr Nob w1 (w1.drewN m)) := Lib.hid ((Fr.refl Nob w1).drewN m)
  have h3 := Lib.hid (H.out.keep fq.out (fun h => h) (fun _ _ h => h))
  have F2 := Lib.hid (F1.out.trans' fq.out.nob)
  clear q1' HF H fq F1
  generalize w1.drewN m = w2 at *
  obtain ⟨p1, p2, p3⟩ := h3.out.slot_cell (I.out.fit OK.out) k
  rw [← pre_suf k (T.chain k)] at p1 p3
  obtain ⟨q1, q2⟩ := hook_cell p3 p1 p2
  rw [H1.out] at q1 p3
  have q1' : w2.cell? (hookA (T.slotA gn go k) (preE k (T.chain k))) = some (.pointer (some ⟨e.b, 0, none⟩)) := q1
  have e2 : w2.cell? ⟨e.b, 2, none⟩ = some (hookV r) := cell_of_row w2 e.b 2 _ _ (0, 0) p3.tail.1
  obtain ⟨B, hh, f⟩ := h3.out.del I.out OK.out k H1.out H2.out
  obtain ⟨a, ha⟩ := hookV_form r
  rw [ha] at e2 B hh f
  have hd := hh.trans h3.out.hd
  have c1 := cell_of_row _ t 3 _ _ (0, 0) hd
  replace c1 : (w2.setCell (hookA (T.slotA gn go k) (preE k (T.chain k))) (.pointer a)).cell? ⟨t, 3, none⟩ = some (.int .i64 T.n) := c1
  have c2 := frozen_of_row _ t 3 _ _ hd
  have HD := Lib.hid hd
  have HB := Lib.hid B
  have G := Lib.hid (F2.out.trans f fun x hx h => by
    rcases N1.out x ((HK.out x).2 h) with h | h
    · exact h
    · omega)
  have LO := Lib.hid h3.out.lo
  have hn0 : 1 ≤ T.n := by
    rw [I.out.n, ← keysM_len]
    exact List.length_pos_of_mem (by rw [moveK_m] at *; exact hk)
  have hn1 : T.n ≤ 1000000 := by rw [I.out.n]; exact hm1
  clear q1 p1 p2 p3 h3 F2 B hh f ha hd
  generalize hookA (T.slotA gn go k) (preE k (T.chain k)) = A at *
  go_wp2_with fail
  go_ret
  refine ⟨rfl, ?_⟩
  generalize w2.setCell A (.pointer a) = w3 at *
  have f4 : Fr (One t) w3 (w3.setCell ⟨t, 3, none⟩ (.int .i64 ((T.n : Int) - 1))) := (Fr.refl (One t) w3).set1 _
  have hmu : ∀ l : List (List En), l.map (dropE k) = [] ↔ l = [] := fun l => List.map_eq_nil_iff
  have hov : oldV go (T.old.map (dropE k)) = oldV go T.old := by
    cases T.old with
    | nil => rfl
    | cons c l => show Value.slice _ _ _ = Value.slice _ _ _; rw [List.length_map]
  rw [HS2.out]
  refine ⟨_, ⟨gn, go, _, ⟨?_, HB.out.keep f4 (HB.out.top HD.out), LO.out⟩, del_is I.out OK.out (by rw [moveK_m]; exact hk), fun x => Iff.rfl⟩, G.out.trans f4 fun x hx e => ?_, ?_⟩
  · show (w3.setCell ⟨t, 3, none⟩ (.int .i64 ((T.n : Int) - 1))).heap[t]? = some (.cells #[.slice (some ⟨gn, 0, none⟩) (T.now.map (dropE k)).length (T.now.map (dropE k)).length, oldV go (T.old.map (dropE k)), .int .i64 T.left, .int .i64 ((T.n - 1 : Nat) : Int)] 93 (0, 0))
    rw [List.length_map, hov, Int.ofNat_sub hn0]
    have := heap_setCell_same w3 t 3 _ _ (.int .i64 ((T.n : Int) - 1)) HD.out
    simpa using this
  · rcases N1.out x ((HK.out x).2 (.inl e)) with h | h
    · exact h
    · omega
  · rintro x (hx | hx | ⟨ho, hx⟩ | hx)
    · exact N1.out x ((HK.out x).2 (.inl hx))
    · exact N1.out x ((HK.out x).2 (.inr (.inl hx)))
    · exact N1.out x ((HK.out x).2 (.inr (.inr (.inl ⟨fun e => ho ((hmu _).2 e), hx⟩))))
    · refine N1.out x ((HK.out x).2 (.inr (.inr (.inr ?_))))
      obtain ⟨y, hy, rfl⟩ := List.mem_map.1 hx
      refine List.mem_map.2 ⟨y, ?_, rfl⟩
      have hy : y ∈ (T.now.map (dropE k)).flatten ++ (T.old.map (dropE k)).flatten := hy
      rw [flat_drop, flat_drop] at hy
      rcases List.mem_append.1 hy with hy | hy
      · exact List.mem_append.2 (.inl (List.mem_filter.1 hy).1)
      · exact List.mem_append.2 (.inr (List.mem_filter.1 hy).1)

/-- Delete, of any key. -/
theorem del_eq (s : TabIn w W t K S) (ok : S.Ok) (k : ByteArray) (hs : k.size < 9223372036854775808) (hm : S.m.length ≤ 1000000) :
    Calls Try.prog 59 #[.pointer (some ⟨t, 0, none⟩), .string k] w fun e w' => e = .returned (.bool (decide (k ∈ keysM S.m))) ∧ TabTo w W t K w' (delK S k) := by
  by_cases hk : k ∈ keysM S.m
  · rw [decide_eq_true hk]
    exact del_some s ok k hs hk hm
  · rw [decide_eq_false hk]
    exact del_none s ok k hs hk
end
end Go.Proofs.Ytpbbokpmlemboaa.Tb
