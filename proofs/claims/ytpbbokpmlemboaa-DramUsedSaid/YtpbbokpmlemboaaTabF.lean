/-
  The table: contract of move, told by keys; contract of Set.
-/
import Derived.Test.YtpbbokpmlemboaaTabE
namespace Go.Proofs.Ytpbbokpmlemboaa.Tb
open Go.RowKit

section
variable {w w' : World} {W t gn go : Nat} {now old : List (List En)} {nrow orow : List Value} {K : Nat → Prop} {T : Tb} {S : KT}

theorem Body.noOld (s : Body w W gn go now old nrow orow) : Body w W gn go now [] nrow [] where
  nw := s.nw
  od := fun h => absurd rfl h
  ne := fun h => absurd rfl h
  chn := s.chn
  cho := fun c hc => by cases hc
  nd := by
    have := s.nd
    rw [bOf_app] at this
    rw [List.flatten_nil, List.append_nil]
    exact (List.nodup_append.1 this).1
  lo := fun b hb => s.lo b (by
    rw [List.flatten_nil, List.append_nil] at hb
    rw [bOf_app, List.mem_append]
    exact .inl hb)

theorem keysE_nil {c : List En} (h : keysE c = []) : c = [] := List.map_eq_nil_iff.1 h
theorem key_sz (i : T.Is S) (ok : S.Ok) : ∀ e ∈ T.all, e.key.size < 9223372036854775808 := fun e he => ok.sz _ (List.mem_map.2 ⟨_, i.vals e he, rfl⟩)

theorem move_eq (s : TabIn w W t K S) (ok : S.Ok) : Calls Try.prog 45 #[.pointer (some ⟨t, 0, none⟩)] w fun e w' => e = .returned (.tuple #[]) ∧ TabTo w W t K w' (moveK S) := by
  obtain ⟨gn, go, T, h, i, hK⟩ := s
  by_cases h0 : T.left = 0
  · refine (move_zero h h0).mono ?_
    rintro e w' ⟨rfl, rfl⟩
    refine ⟨rfl, K, ⟨gn, go, T, h, ?_, hK⟩, Fr.refl _ _, fun k hk => .inl hk⟩
    have : moveK S = S := by unfold moveK; rw [if_pos (by rw [← i.left]; exact h0)]
    rw [this]
    exact i
  · refine (move_more h (i.fit ok) (by omega) (key_sz i ok)).mono ?_
    rintro e w' ⟨rfl, M⟩
    refine ⟨rfl, ?_⟩
    have hle := (i.fit ok).le
    have hfi : T.first < T.old.length := by unfold Tb.first; omega
    have hfS : T.first = S.first := by unfold Tb.first KT.first; rw [i.oldL, i.left]
    have hmv : moveK S = { now := (S.old.getD S.first []).foldl pushK S.now, old := if S.left = 1 then [] else S.old.set S.first [], left := S.left - 1, m := S.m } := by
      unfold moveK
      rw [if_neg (by rw [← i.left]; exact h0)]
    have hnow : ((T.old.getD T.first []).foldl pushE T.now).map keysE = (moveK S).now := by
      rw [foldE_keys, i.now, hmv, ← hfS, ← i.old, map_getD _ _ rfl]
    have hold : (T.old.set T.first []).map keysE = S.old.set S.first [] := by rw [List.map_set, i.old, hfS]; rfl
    have hperm := foldE_perm (T.old.getD T.first []) T.now (i.fit ok).pos
    have hsub : ∀ e, e ∈ ((T.old.getD T.first []).foldl pushE T.now).flatten ++ (T.old.set T.first []).flatten → e ∈ T.all := by
      intro e he
      unfold Tb.all
      rw [List.mem_append] at he ⊢
      rcases he with he | he
      · rcases List.mem_append.1 (hperm.mem_iff.1 he) with he | he
        · exact .inr (mem_flatten_getD.2 ⟨_, hfi, he⟩)
        · exact .inl he
      · obtain ⟨j, hj, hx⟩ := mem_flatten_getD.1 he
        rw [set_getD] at hx
        split at hx
        · cases hx
        · exact .inr (mem_flatten_getD.2 ⟨j, by rw [List.length_set] at hj; exact hj, hx⟩)
    have hne : T.old ≠ [] := by intro e; rw [e] at hfi; exact absurd hfi (Nat.not_lt_zero _)
    have hsubB : ∀ b, b ∈ bOf (((T.old.getD T.first []).foldl pushE T.now).flatten ++ (T.old.set T.first []).flatten) → b ∈ bOf (T.now.flatten ++ T.old.flatten) := by
      intro b hb
      obtain ⟨e, he, rfl⟩ := List.mem_map.1 hb
      exact List.mem_map.2 ⟨e, hsub e he, rfl⟩
    have hfr : Fr K w w' := M.fr.mono fun k _ hk => (hK k).2 hk
    by_cases h1 : T.left = 1
    · have hd := M.hd
      rw [if_pos h1] at hd
      refine ⟨_, ⟨gn, go, ⟨(T.old.getD T.first []).foldl pushE T.now, [], T.left - 1, T.n⟩, ⟨?_, M.bd.noOld, h.lo⟩, ⟨hnow, ?_, ?_, ?_, ?_⟩, fun k => Iff.rfl⟩, hfr, ?_⟩
      · show w'.heap[t]? = some (.cells #[.slice (some ⟨gn, 0, none⟩) ((T.old.getD T.first []).foldl pushE T.now).length ((T.old.getD T.first []).foldl pushE T.now).length, .slice none 0 0, .int .i64 ((T.left - 1 : Nat) : Int), .int .i64 T.n] 93 (0, 0))
        rw [foldE_len]
        exact hd
      · show [] = _
        rw [hmv, ← i.left]
        show [] = if T.left = 1 then [] else _
        rw [if_pos h1]
      · show T.left - 1 = _
        rw [hmv, i.left]
      · show T.n = _
        rw [hmv, i.n]
      · intro e he
        rw [moveK_m]
        refine i.vals e (hsub e ?_)
        have he : e ∈ ((T.old.getD T.first []).foldl pushE T.now).flatten ++ [] := he
        rw [List.append_nil] at he
        exact List.mem_append.2 (.inl he)
      · rintro k (hk | hk | ⟨hk, _⟩ | hk)
        · exact .inl ((hK k).2 (.inl hk))
        · exact .inl ((hK k).2 (.inr (.inl hk)))
        · exact absurd rfl hk
        · refine .inl ((hK k).2 (.inr (.inr (.inr (hsubB k ?_)))))
          have hk : k ∈ bOf (((T.old.getD T.first []).foldl pushE T.now).flatten ++ []) := hk
          rw [List.append_nil] at hk
          rw [bOf_app]
          exact List.mem_append.2 (.inl hk)
    · have hd := M.hd
      rw [if_neg h1] at hd
      have ho2 : oldV go (T.old.set T.first []) = oldV go T.old := by
        rw [oldV_of hne, oldV_of (by intro e; have := congrArg List.length e; rw [List.length_set] at this; simp at this; exact hne this), List.length_set]
      refine ⟨_, ⟨gn, go, ⟨(T.old.getD T.first []).foldl pushE T.now, T.old.set T.first [], T.left - 1, T.n⟩, ⟨?_, M.bd, h.lo⟩, ⟨hnow, ?_, ?_, ?_, ?_⟩, fun k => Iff.rfl⟩, hfr, ?_⟩
      · show w'.heap[t]? = some (.cells #[.slice (some ⟨gn, 0, none⟩) ((T.old.getD T.first []).foldl pushE T.now).length ((T.old.getD T.first []).foldl pushE T.now).length, oldV go (T.old.set T.first []), .int .i64 ((T.left - 1 : Nat) : Int), .int .i64 T.n] 93 (0, 0))
        rw [foldE_len, ho2]
        exact hd
      · show (T.old.set T.first []).map keysE = _
        rw [hmv, hold]
        show _ = if S.left = 1 then [] else _
        rw [if_neg (by rw [← i.left]; exact h1)]
      · show T.left - 1 = _
        rw [hmv, i.left]
      · show T.n = _
        rw [hmv, i.n]
      · intro e he
        rw [moveK_m]
        exact i.vals e (hsub e he)
      · rintro k (hk | hk | ⟨_, hk⟩ | hk)
        · exact .inl ((hK k).2 (.inl hk))
        · exact .inl ((hK k).2 (.inr (.inl hk)))
        · exact .inl ((hK k).2 (.inr (.inr (.inl ⟨hne, hk⟩))))
        · exact .inl ((hK k).2 (.inr (.inr (.inr (hsubB k hk)))))

/-- A write of an entry's number. -/
def updE (b : Nat) (v : Int) (c : List En) : List En := c.map fun e => if e.b = b then { e with v := v } else e
theorem updE_b (b : Nat) (v : Int) (c : List En) : bOf (updE b v c) = bOf c := by
  unfold bOf updE
  rw [List.map_map]
  apply List.map_congr_left
  intro e _
  show (if e.b = b then { e with v := v } else e).b = e.b
  split <;> rfl
theorem updE_keys (b : Nat) (v : Int) (c : List En) : keysE (updE b v c) = keysE c := by
  unfold keysE updE
  rw [List.map_map]
  apply List.map_congr_left
  intro e _
  show (if e.b = b then { e with v := v } else e).key = e.key
  split <;> rfl
theorem updE_hook (b : Nat) (v : Int) (c : List En) : hookV (updE b v c) = hookV c := by
  cases c with
  | nil => rfl
  | cons e r =>
    show Value.pointer (some ⟨(if e.b = b then { e with v := v } else e).b, 0, none⟩) = .pointer (some ⟨e.b, 0, none⟩)
    split <;> rfl
theorem updE_hooks (b : Nat) (v : Int) (l : List (List En)) : (l.map (updE b v)).map hookV = l.map hookV := by
  rw [List.map_map]
  exact List.map_congr_left fun c _ => updE_hook b v c
theorem updE_flat (b : Nat) (v : Int) (l : List (List En)) : (l.map (updE b v)).flatten = updE b v l.flatten := by unfold updE; rw [List.map_flatten]
theorem ChAt.upd {c : List En} (h : ChAt w c) (b : Nat) (v : Int) : ChAt (w.setCell ⟨b, 1, none⟩ (.int .i64 v)) (updE b v c) := by
  induction c with
  | nil => trivial
  | cons e r ih =>
    refine ⟨?_, ih h.2⟩
    show (w.setCell ⟨b, 1, none⟩ (.int .i64 v)).heap[(if e.b = b then { e with v := v } else e).b]? = some (.cells #[.string (if e.b = b then { e with v := v } else e).key, .int .i64 (if e.b = b then { e with v := v } else e).v, hookV (updE b v r)] 106 (0, 0))
    rw [updE_hook]
    by_cases hb : e.b = b
    · rw [if_pos hb]
      show (w.setCell ⟨b, 1, none⟩ (.int .i64 v)).heap[e.b]? = _
      rw [hb]
      have := h.1
      rw [hb] at this
      exact ent_set1 this
    · rw [if_neg hb, Below.heap_setCell _ _ _ _ hb]
      exact h.1
theorem Body.upd (s : Body w W gn go now old (now.map hookV) (old.map hookV)) {b : Nat} (hb : b ∈ bOf (now.flatten ++ old.flatten)) (v : Int) :
    Body (w.setCell ⟨b, 1, none⟩ (.int .i64 v)) W gn go (now.map (updE b v)) (old.map (updE b v)) ((now.map (updE b v)).map hookV) ((old.map (updE b v)).map hookV) := by
  have f : Fr (One b) w (w.setCell ⟨b, 1, none⟩ (.int .i64 v)) := (Fr.refl (One b) w).set1 _
  have hbb : bOf ((now.map (updE b v)).flatten ++ (old.map (updE b v)).flatten) = bOf (now.flatten ++ old.flatten) := by
    rw [updE_flat, updE_flat, bOf_app, bOf_app, updE_b, updE_b]
  have hne : old.map (updE b v) ≠ [] → old ≠ [] := fun h e => h (by rw [e]; rfl)
  refine ⟨?_, fun ho => ?_, fun ho => s.ne (hne ho), ?_, ?_, by rw [hbb]; exact s.nd, fun x hx => s.lo x (by rw [← hbb]; exact hx)⟩
  · rw [List.length_map, updE_hooks]
    exact f.ownsRow s.nw fun k hk e => s.gn_not (by
      have h1 : gn = k := by simpa [Value.ownBlock] using hk
      rw [h1, show k = b from e]; exact hb)
  · rw [List.length_map, updE_hooks]
    exact f.ownsRow (s.od (hne ho)) fun k hk e => s.go_not (hne ho) (by
      have h1 : go = k := by simpa [Value.ownBlock] using hk
      rw [h1, show k = b from e]; exact hb)
  · intro c hc
    obtain ⟨d, hd, rfl⟩ := List.mem_map.1 hc
    exact (s.chn d hd).upd b v
  · intro c hc
    obtain ⟨d, hd, rfl⟩ := List.mem_map.1 hc
    exact (s.cho d hd).upd b v
theorem nodup_inj {α β : Type _} {f : α → β} {l : List α} (h : (l.map f).Nodup) {x y : α} (hx : x ∈ l) (hy : y ∈ l) (e : f x = f y) : x = y := by
  induction l with
  | nil => cases hx
  | cons a l ih =>
    have hn := List.nodup_cons.1 h
    rcases List.mem_cons.1 hx with h1 | h1
    · rcases List.mem_cons.1 hy with h2 | h2
      · rw [h1, h2]
      · exact absurd (by rw [← h1, e]; exact List.mem_map.2 ⟨y, h2, rfl⟩) hn.1
    · rcases List.mem_cons.1 hy with h2 | h2
      · exact absurd (by rw [← h2, ← e]; exact List.mem_map.2 ⟨x, h1, rfl⟩) hn.1
      · exact ih hn.2 h1 h2
theorem Tb.Is.kn (i : T.Is S) (ok : S.Ok) : (T.all.map En.key).Nodup := by
  have h1 : keysE T.all = T.all.map En.key := rfl
  rw [← h1, i.all]
  exact ok.perm.symm.nodup ok.nd
/-- The table behind a write of the number of key k. -/
theorem TabAt.upd (h : TabAt w W t gn go T) (i : T.Is S) (ok : S.Ok) (hK : ∀ k, K k ↔ k = t ∨ BOwn gn go T.now T.old k) {e : En} (he : e ∈ T.all) (v : Int) :
    TabTo w W t K (w.setCell ⟨e.b, 1, none⟩ (.int .i64 v)) { S with m := updP S.m e.key v } := by
  have hb : e.b ∈ bOf (T.now.flatten ++ T.old.flatten) := List.mem_map.2 ⟨e, he, rfl⟩
  obtain ⟨cs, hcs⟩ := h.bd.is hb
  have hte : t ≠ e.b := heap_type h.hd hcs (by decide)
  have f : Fr (One e.b) w (w.setCell ⟨e.b, 1, none⟩ (.int .i64 v)) := (Fr.refl (One e.b) w).set1 _
  have hall : (⟨T.now.map (updE e.b v), T.old.map (updE e.b v), T.left, T.n⟩ : Tb).all = updE e.b v T.all := by
    unfold Tb.all
    rw [updE_flat, updE_flat]
    exact (List.map_append ..).symm
  refine ⟨K, ⟨gn, go, ⟨T.now.map (updE e.b v), T.old.map (updE e.b v), T.left, T.n⟩, ⟨?_, h.bd.upd hb v, h.lo⟩, ⟨?_, ?_, i.left, ?_, ?_⟩, ?_⟩, f.mono fun k _ hk => (hK k).2 (.inr (.inr (.inr (by rw [show k = e.b from hk]; exact hb)))), fun k hk => .inl hk⟩
  · have := f.heap h.hd hte
    show (w.setCell ⟨e.b, 1, none⟩ (.int .i64 v)).heap[t]? = some (.cells #[.slice (some ⟨gn, 0, none⟩) (T.now.map (updE e.b v)).length (T.now.map (updE e.b v)).length, oldV go (T.old.map (updE e.b v)), .int .i64 T.left, .int .i64 T.n] 93 (0, 0))
    rw [List.length_map, this]
    have : oldV go (T.old.map (updE e.b v)) = oldV go T.old := by
      cases T.old with
      | nil => rfl
      | cons c l => show Value.slice _ _ _ = Value.slice _ _ _; rw [List.length_map]
    rw [this]
  · show (T.now.map (updE e.b v)).map keysE = S.now
    rw [← i.now, List.map_map]
    exact List.map_congr_left fun c _ => updE_keys e.b v c
  · show (T.old.map (updE e.b v)).map keysE = S.old
    rw [← i.old, List.map_map]
    exact List.map_congr_left fun c _ => updE_keys e.b v c
  · show T.n = (updP S.m e.key v).length
    unfold updP
    rw [List.length_map]
    exact i.n
  · intro x hx
    rw [hall] at hx
    obtain ⟨y, hy, rfl⟩ := List.mem_map.1 hx
    show ((if y.b = e.b then { y with v := v } else y).key, (if y.b = e.b then { y with v := v } else y).v) ∈ updP S.m e.key v
    unfold updP
    by_cases hyb : y.b = e.b
    · have : y = e := nodup_inj (f := En.b) h.bd.nd hy he hyb
      subst this
      rw [if_pos rfl]
      exact List.mem_map.2 ⟨_, i.vals y hy, if_pos rfl⟩
    · rw [if_neg hyb]
      refine List.mem_map.2 ⟨_, i.vals y hy, if_neg fun hk => hyb ?_⟩
      have : y = e := nodup_inj (i.kn ok) hy he hk
      rw [this]
  · intro k
    rw [hK]
    have h1 : BOwn gn go (T.now.map (updE e.b v)) (T.old.map (updE e.b v)) k ↔ BOwn gn go T.now T.old k := by
      unfold BOwn
      have h2 : bOf ((T.now.map (updE e.b v)).flatten ++ (T.old.map (updE e.b v)).flatten) = bOf (T.now.flatten ++ T.old.flatten) := by
        rw [updE_flat, updE_flat, bOf_app, bOf_app, updE_b, updE_b]
      rw [h2]
      have h3 : T.old.map (updE e.b v) ≠ [] ↔ T.old ≠ [] := by rw [Ne, List.map_eq_nil_iff]
      rw [h3]
    show _ ↔ k = t ∨ BOwn gn go (T.now.map (updE e.b v)) (T.old.map (updE e.b v)) k
    rw [h1]
end
end Go.Proofs.Ytpbbokpmlemboaa.Tb
