/-
  The table: contract of move.
-/
import Derived.Test.YtpbbokpmlemboaaTabD
namespace Go.Proofs.Ytpbbokpmlemboaa.Tb
open Go.RowKit

def pushE (now : List (List En)) (e : En) : List (List En) := now.set (hashK e.key % now.length) (e :: now.getD (hashK e.key % now.length) [])
theorem pushE_len (now : List (List En)) (e : En) : (pushE now e).length = now.length := List.length_set ..
theorem pushE_keys (now : List (List En)) (e : En) : (pushE now e).map keysE = pushK (now.map keysE) e.key := by
  unfold pushE pushK
  rw [List.length_map]
  apply List.ext_getElem?
  intro j
  rw [List.getElem?_map, List.getElem?_set, List.getElem?_modify, List.getElem?_map]
  by_cases hj : hashK e.key % now.length = j
  · rw [if_pos hj]
    subst hj
    by_cases hl : hashK e.key % now.length < now.length
    · rw [if_pos hl, List.getD_eq_getElem?_getD, List.getElem?_eq_getElem hl]
      simp
      rfl
    · rw [if_neg hl, List.getElem?_eq_none (by omega)]
      rfl
  · rw [if_neg hj]
    simp [hj]
theorem flatten_set_cons {α : Type _} : ∀ (l : List (List α)) (i : Nat) (x : α) (c : List α), i < l.length → (l.set i (x :: c)).flatten.Perm (x :: (l.set i c).flatten)
  | d :: l, 0, x, c, _ => List.Perm.refl _
  | d :: l, i + 1, x, c, h => by
    have := flatten_set_cons l i x c (by simpa using h)
    rw [List.set_cons_succ, List.set_cons_succ, List.flatten_cons, List.flatten_cons]
    exact (List.Perm.append_left d this).trans List.perm_middle
theorem set_getD_self {α : Type _} (l : List (List α)) (i : Nat) (h : i < l.length) : l.set i (l.getD i []) = l := by
  apply List.ext_getElem?
  intro j
  rw [List.getElem?_set]
  split
  next hij => subst hij; rw [List.getD_eq_getElem?_getD, List.getElem?_eq_getElem h]; rfl
  · rfl
theorem pushE_perm {now : List (List En)} (e : En) (h : 0 < now.length) : (pushE now e).flatten.Perm (e :: now.flatten) := by
  have hl := Nat.mod_lt (hashK e.key) h
  have := flatten_set_cons now _ e (now.getD (hashK e.key % now.length) []) hl
  rw [set_getD_self _ _ hl] at this
  exact this
theorem foldE_len (c : List En) (now : List (List En)) : (c.foldl pushE now).length = now.length := by
  induction c generalizing now with
  | nil => rfl
  | cons e c ih => rw [List.foldl_cons, ih, pushE_len]
theorem foldE_keys (c : List En) (now : List (List En)) : (c.foldl pushE now).map keysE = (keysE c).foldl pushK (now.map keysE) := by
  induction c generalizing now with
  | nil => rfl
  | cons e c ih =>
    rw [List.foldl_cons, ih, pushE_keys]
    rfl
theorem foldE_perm (c : List En) (now : List (List En)) (h : 0 < now.length) : (c.foldl pushE now).flatten.Perm (c ++ now.flatten) := by
  induction c generalizing now with
  | nil => exact List.Perm.refl _
  | cons e c ih =>
    rw [List.foldl_cons]
    exact (ih _ (by rw [pushE_len]; exact h)).trans ((List.Perm.append_left c (pushE_perm e h)).trans List.perm_middle)

section
variable {w w' : World} {W t gn go : Nat} {now old : List (List En)} {nrow orow : List Value}

theorem Body.take {i : Nat} {e : En} {r : List En} (s : Body w W gn go now (old.set i (e :: r)) nrow orow) (hi : i < old.length) :
    Body w W gn go now (old.set i r) nrow orow ∧ e.b ∉ bOf (now.flatten ++ (old.set i r).flatten) ∧ w.heap[e.b]? = some (.cells #[.string e.key, .int .i64 e.v, hookV r] 106 (0, 0)) ∧ W ≤ e.b ∧ e.b ≠ gn ∧ e.b ≠ go := by
  have hne : ∀ x, old.set i x ≠ [] := fun x h => by
    have := congrArg List.length h
    rw [List.length_set] at this
    simp at this
    subst this
    exact absurd hi (Nat.not_lt_zero _)
  have hp : (now.flatten ++ (old.set i (e :: r)).flatten).Perm (e :: (now.flatten ++ (old.set i r).flatten)) := ((flatten_set_cons old i e r hi).append_left _).trans List.perm_middle
  have hb : (bOf (now.flatten ++ (old.set i (e :: r)).flatten)).Perm (e.b :: bOf (now.flatten ++ (old.set i r).flatten)) := hp.map En.b
  have hnd := List.nodup_cons.1 (hb.nodup_iff.1 s.nd)
  have hmem : (e :: r) ∈ old.set i (e :: r) := List.mem_of_getElem? (by rw [List.getElem?_set_self hi])
  have hch := s.cho _ hmem
  have hbm : e.b ∈ bOf (now.flatten ++ (old.set i (e :: r)).flatten) := hb.mem_iff.2 (List.mem_cons_self ..)
  have hod := s.od (hne _)
  rw [List.length_set] at hod
  refine ⟨⟨s.nw, fun _ => by rw [List.length_set]; exact hod, fun _ => s.ne (hne _), s.chn, ?_, hnd.2, fun b h => s.lo b (hb.mem_iff.2 (List.mem_cons_of_mem _ h))⟩, hnd.1, hch.1, s.lo _ hbm, fun e1 => s.gn_not (e1 ▸ hbm), fun e1 => s.go_not (hne _) (e1 ▸ hbm)⟩
  intro c hc
  rcases mem_set hc with rfl | ⟨j, hj, hc2⟩
  · exact hch.2
  · exact s.cho c (List.mem_of_getElem? (i := j) (by rw [List.getElem?_set_ne (fun e => hj e.symm)]; exact hc2))

theorem Body.moved {i : Nat} {e : En} {r : List En} (s : Body w W gn go now (old.set i (e :: r)) (now.map hookV) orow) (hi : i < old.length) (hp : 0 < now.length) :
    Body ((w.setCell ⟨e.b, 2, none⟩ (hookV (now.getD (hashK e.key % now.length) []))).setCell ⟨gn, hashK e.key % now.length, none⟩ (.pointer (some ⟨e.b, 0, none⟩))) W gn go (pushE now e) (old.set i r) ((pushE now e).map hookV) orow := by
  obtain ⟨B1, h2, h3, h4, h5, h6⟩ := s.take hi
  have hl := Nat.mod_lt (hashK e.key) hp
  have f1 : Fr (One e.b) w (w.setCell ⟨e.b, 2, none⟩ (hookV (now.getD (hashK e.key % now.length) []))) := (Fr.refl (One e.b) w).set1 _
  have B2 := B1.keep f1 (fun k hk e1 => by
    have e1 : k = e.b := e1
    rcases hk with hk | ⟨_, hk⟩ | hk
    · exact h5 (e1.symm.trans hk)
    · exact h6 (e1.symm.trans hk)
    · rw [e1] at hk; exact h2 hk)
  have hnow : now[hashK e.key % now.length]? = some ([] ++ now.getD (hashK e.key % now.length) []) := by
    rw [List.nil_append, List.getD_eq_getElem?_getD, List.getElem?_eq_getElem hl]; rfl
  have hpm : ((pushE now e).flatten ++ (old.set i r).flatten).Perm (e :: (now.flatten ++ (old.set i r).flatten)) := (pushE_perm e hp).append_right _
  exact B2.hookN (i := hashK e.key % now.length) (pre := []) (rest := now.getD (hashK e.key % now.length) []) (rest' := e :: now.getD (hashK e.key % now.length) []) hnow
    ⟨ent_set2 h3, B2.chn _ (by have := List.mem_of_getElem? hnow; exact this)⟩
    ((hpm.map En.b).nodup_iff.2 (List.nodup_cons.2 ⟨h2, B1.nd⟩))
    (fun b hb => by
      rcases List.mem_cons.1 hb with rfl | hb
      · exact h4
      · exact B2.lo b (by rw [bOf_app, List.mem_append]; exact .inl (mem_b.2 ⟨_, List.mem_of_getElem? hnow, hb⟩)))
theorem Body.oset (s : Body w W gn go now old nrow orow) (ho : old ≠ []) (i : Nat) (u : Value) : Body (w.setCell ⟨go, i, none⟩ u) W gn go now old nrow (orow.set i u) := by
  have f : Fr (One go) w (w.setCell ⟨go, i, none⟩ u) := (Fr.refl (One go) w).set1 _
  have hn : ∀ b, b ∈ bOf (now.flatten ++ old.flatten) → ¬ One go b := fun b hb e => s.go_not ho (by rw [← show b = go from e]; exact hb)
  refine ⟨f.ownsRow s.nw fun k hk e => ?_, fun h => row_setg' (s.od h) i u, s.ne, fun c hc => (s.chn c hc).keep f fun b hb => hn b (by rw [bOf_app, List.mem_append]; exact .inl (mem_b.2 ⟨c, hc, hb⟩)), fun c hc => (s.cho c hc).keep f fun b hb => hn b (by rw [bOf_app, List.mem_append]; exact .inr (mem_b.2 ⟨c, hc, hb⟩)), s.nd, s.lo⟩
  have h1 : gn = k := by simpa [Value.ownBlock] using hk
  exact s.ne ho (h1.trans e)

theorem hookV_form (l : List En) : ∃ a, hookV l = .pointer a := by cases l <;> exact ⟨_, rfl⟩

set_option maxHeartbeats 4000000 in
set_option maxRecDepth 100000 in
theorem move_zero {T : Tb} (s : TabAt w W t gn go T) (h0 : T.left = 0) : Calls Try.prog 45 #[.pointer (some ⟨t, 0, none⟩)] w fun e w' => e = .returned (.tuple #[]) ∧ w = w' := by
  obtain ⟨c0, c1, c2, c3, c4⟩ := s.cells
  rw [h0] at c2
  clear h0 s
  go_enter Try.func45, Try.ntmps45
  go_wp2_with fail
  refine bodyPost_ret (results_none rfl _ _ _) rfl ?_
  exact ⟨rfl, rfl⟩

/-- What the move leaves. -/
structure Moved (w : World) (W t gn go : Nat) (T : Tb) (w' : World) : Prop where
  hd : w'.heap[t]? = some (.cells #[.slice (some ⟨gn, 0, none⟩) T.now.length T.now.length, if T.left = 1 then .slice none 0 0 else oldV go T.old, .int .i64 ((T.left - 1 : Nat) : Int), .int .i64 T.n] 93 (0, 0))
  bd : Body w' W gn go ((T.old.getD T.first []).foldl pushE T.now) (T.old.set T.first []) (((T.old.getD T.first []).foldl pushE T.now).map hookV) ((T.old.set T.first []).map hookV)
  fr : Fr (fun k => k = t ∨ BOwn gn go T.now T.old k) w w'

set_option maxHeartbeats 8000000 in
set_option maxRecDepth 100000 in
theorem move_more {T : Tb} (s : TabAt w W t gn go T) (F : T.Fit) (h0 : 0 < T.left) (hz : ∀ e ∈ T.all, e.key.size < 9223372036854775808) :
    Calls Try.prog 45 #[.pointer (some ⟨t, 0, none⟩)] w fun e w' => e = .returned (.tuple #[]) ∧ Moved w W t gn go T w' := by
  obtain ⟨c0, c1, c2, c3, c4⟩ := s.cells
  have hle := F.le
  have ho := F.olds
  have hop : 0 < T.old.length := by omega
  have hne : T.old ≠ [] := by intro e; rw [e] at hop; exact absurd hop (Nat.lt_irrefl _)
  have hov := oldV_of (go := go) hne
  rw [hov] at c1
  have hfi : T.first < T.old.length := by unfold Tb.first; omega
  have hfe : (T.old.length : Int) - (T.left : Int) = (T.first : Int) := by unfold Tb.first; omega
  have hs0 : ∀ w0, Fr Nob w w0 → TabAt w0 W t gn go T := fun w0 f => s.keep f (fun h => h) fun _ _ h => h
  have HS0 := Lib.hid hs0
  have HT : Hid (∀ w0, TabAt w0 W t gn go T → (w0.setCell ⟨t, 2, none⟩ (.int .i64 ((T.left : Int) - 1))).heap[t]? = some (.cells #[.slice (some ⟨gn, 0, none⟩) T.now.length T.now.length, .slice (some ⟨go, 0, none⟩) T.old.length T.old.length, .int .i64 ((T.left : Int) - 1), .int .i64 T.n] 93 (0, 0)) ∧
      Body (w0.setCell ⟨t, 2, none⟩ (.int .i64 ((T.left : Int) - 1))) W gn go T.now T.old (T.now.map hookV) (T.old.map hookV) ∧ Fr (One t) w0 (w0.setCell ⟨t, 2, none⟩ (.int .i64 ((T.left : Int) - 1)))) := by
    refine Lib.hid fun w0 s => ?_
    have f1 : Fr (One t) w0 (w0.setCell ⟨t, 2, none⟩ (.int .i64 ((T.left : Int) - 1))) := (Fr.refl (One t) w0).set1 _
    refine ⟨?_, s.bd.keep f1 ?_, f1⟩
    · have := heap_setCell_same w0 t 2 _ _ (.int .i64 ((T.left : Int) - 1)) s.hd
      rw [hov] at this
      simpa using this
    · rintro k hk e
      have e : k = t := e
      rcases hk with hk | ⟨_, hk⟩ | hk
      · obtain ⟨⟨cur, h2⟩, _⟩ := row_is s.bd.nw
        exact heap_type s.hd h2 (by decide) (e.symm.trans hk)
      · obtain ⟨⟨cur, h2⟩, _⟩ := row_is (s.bd.od hne)
        exact heap_type s.hd h2 (by decide) (e.symm.trans hk)
      · obtain ⟨cs, h2⟩ := s.bd.is hk
        exact heap_type s.hd h2 (by decide) e.symm
  have hg : T.old[T.first]? = some (T.old.getD T.first []) := by
    rw [List.getD_eq_getElem?_getD, List.getElem?_eq_getElem hfi]; rfl
  have HG := Lib.hid hg
  have HOV := Lib.hid hov
  clear hov hg hs0 s
  go_enter Try.func45, Try.ntmps45
  go_wp2_with fail
  go_quiet (fail)
  have F0 : Hid (Fr Nob w (w.drewN nq)) := Lib.hid ((Fr.refl Nob w).drewN nq)
  have S0 := HS0.out _ F0.out
  clear c0 c1 c2 c3 c4
  generalize w.drewN nq = w0 at *
  obtain ⟨c0, c1, c2, c3, c4⟩ := S0.cells
  obtain ⟨hd1, B1, f1⟩ := HT.out w0 S0
  obtain ⟨r1, r2⟩ := row_at' (B1.od hne) (i := T.first) (v := hookV (T.old.getD T.first [])) (by rw [List.getElem?_map, HG.out]; rfl)
  rw [HOV.out] at c1
  have d1 : (w0.setCell ⟨t, 2, none⟩ (.int .i64 ((T.left : Int) - 1))).cell? ⟨t, 1, none⟩ = some (.slice (some ⟨go, 0, none⟩) T.old.length T.old.length) := cell_of_row _ t 1 _ _ (0, 0) hd1
  have H1 := Lib.hid (And.intro hd1 (And.intro B1 f1))
  clear hd1 B1 f1 S0
  obtain ⟨c, hc⟩ : ∃ c, c = T.old.getD T.first [] := ⟨_, rfl⟩
  rw [← hc] at r1
  have HC := Lib.hid hc
  obtain ⟨cv, hcv⟩ : ∃ cv, cv = hookV c := ⟨_, rfl⟩
  rw [← hcv] at r1
  have HCV := Lib.hid hcv
  clear hcv hc
  go_wp2_with fail
  have HH : Hid ((w0.setCell ⟨t, 2, none⟩ (.int .i64 ((T.left : Int) - 1))).heap[t]? = some (.cells #[.slice (some ⟨gn, 0, none⟩) T.now.length T.now.length, .slice (some ⟨go, 0, none⟩) T.old.length T.old.length, .int .i64 ((T.left : Int) - 1), .int .i64 T.n] 93 (0, 0))) := Lib.hid H1.out.1
  have HB : Hid (Body (w0.setCell ⟨t, 2, none⟩ (.int .i64 ((T.left : Int) - 1))) W gn go T.now (T.old.set T.first c) (T.now.map hookV) (T.old.map hookV)) := by
    rw [HC.out, set_getD_self _ _ hfi]
    exact Lib.hid H1.out.2.1
  have HF : Hid (Fr (fun k => k = t ∨ BOwn gn go T.now T.old k) w (w0.setCell ⟨t, 2, none⟩ (.int .i64 ((T.left : Int) - 1)))) := Lib.hid (F0.out.nob.trans H1.out.2.2 fun k _ h => .inl h)
  clear r1 r2 d1 H1 HT HS0 c0 c1 c2 c3 c4 F0
  generalize w0.setCell ⟨t, 2, none⟩ (.int .i64 ((T.left : Int) - 1)) = w1 at *
  go_loopg [3, 4, 5] c.length (fun n ev _ _ wr => ∃ done rest, Hid (c = done ++ rest) ∧ ev = hookV rest ∧ n = rest.length ∧
    Hid (wr.heap[t]? = some (.cells #[.slice (some ⟨gn, 0, none⟩) T.now.length T.now.length, .slice (some ⟨go, 0, none⟩) T.old.length T.old.length, .int .i64 ((T.left : Int) - 1), .int .i64 T.n] 93 (0, 0))) ∧
    Hid (Body wr W gn go (done.foldl pushE T.now) (T.old.set T.first rest) ((done.foldl pushE T.now).map hookV) (T.old.map hookV)) ∧ Hid (Fr (fun k => k = t ∨ BOwn gn go T.now T.old k) w wr))
  case atStart => exact ⟨[], c, Lib.hid rfl, HCV.out, rfl, HH, HB, HF⟩
  case round =>
    clear HH HB HF HCV
    obtain ⟨done, rest, hdr, rfl, rfl, HH, HB, HF⟩ := hrel
    have g := fun j => cell_of_row wr t j _ _ (0, 0) HH.out
    have g0 := g 0
    have g1 := g 1
    have g2 := g 2
    have gf := frozen_of_row wr t 1 _ _ HH.out
    replace g0 : wr.cell? ⟨t, 0, none⟩ = some (.slice (some ⟨gn, 0, none⟩) T.now.length T.now.length) := g0
    replace g1 : wr.cell? ⟨t, 1, none⟩ = some (.slice (some ⟨go, 0, none⟩) T.old.length T.old.length) := g1
    replace g2 : wr.cell? ⟨t, 2, none⟩ = some (.int .i64 ((T.left : Int) - 1)) := g2
    clear g
    cases rest with
    | nil =>
      have B2 := HB.out.oset (by intro h; have := congrArg List.length h; rw [List.length_set] at this; simp at this; exact hne this) T.first (.pointer none)
      have f3 : Fr (One go) wr (wr.setCell ⟨go, T.first, none⟩ (.pointer none)) := (Fr.refl (One go) wr).set1 _
      have hod := HB.out.od (by intro h; have := congrArg List.length h; rw [List.length_set] at this; simp at this; exact hne this)
      have HH3 := f3.heap HH.out (by
        intro h
        obtain ⟨⟨cur, k2⟩, _⟩ := row_is hod
        exact heap_type HH.out k2 (by decide) h)
      have HF3 := HF.out.trans f3 fun k _ h => .inr (.inr (.inl ⟨hne, h⟩))
      obtain ⟨r1, r2⟩ := row_at' hod (i := T.first) (v := hookV (T.old.getD T.first [])) (by rw [List.getElem?_map, HG.out]; rfl)
      have l2 : (wr.setCell ⟨go, T.first, none⟩ (.pointer none)).cell? ⟨t, 2, none⟩ = some (.int .i64 ((T.left : Int) - 1)) := cell_of_row _ t 2 _ _ (0, 0) HH3
      have l1 : (wr.setCell ⟨go, T.first, none⟩ (.pointer none)).cell? ⟨t, 1, none⟩ = some (.slice (some ⟨go, 0, none⟩) T.old.length T.old.length) := cell_of_row _ t 1 _ _ (0, 0) HH3
      have lf := frozen_of_row _ t 1 _ _ HH3
      have hev : hookV [] = .pointer none := rfl
      have hset : (T.old.map hookV).set T.first (.pointer none) = (T.old.set T.first []).map hookV := by rw [List.map_set]; rfl
      have hcd : c = done := by rw [hdr.out]; simp
      rw [hset, ← hcd, HC.out] at B2
      obtain ⟨rv, hrv⟩ := hookV_form (T.old.getD T.first [])
      rw [hrv] at r1
      have HB3 := Lib.hid B2
      have HF4 := Lib.hid HF3
      have HH4 := Lib.hid HH3
      rw [hev]
      clear B2 f3 hod HH3 HF3 hev hset hrv hcd HH HB HF hdr
      by_cases h1 : T.left = 1
      · have h1' : ((T.left : Int) - 1) = 0 := by omega
        rw [h1'] at l2
        have HE := Lib.hid h1
        have ho4 : T.old.set T.first [] ≠ [] := by intro h; have := congrArg List.length h; rw [List.length_set] at this; simp at this; exact hne this
        have f5 : Fr (One t) (wr.setCell ⟨go, T.first, none⟩ (.pointer none)) ((wr.setCell ⟨go, T.first, none⟩ (.pointer none)).setCell ⟨t, 1, none⟩ (.slice none 0 0)) := (Fr.refl (One t) (wr.setCell ⟨go, T.first, none⟩ (.pointer none))).set1 _
        have B5 := Lib.hid (HB3.out.keep f5 (by
          intro k hk e
          have e : k = t := e
          rcases hk with hk | ⟨_, hk⟩ | hk
          · obtain ⟨⟨cur, h2⟩, _⟩ := row_is HB3.out.nw
            exact heap_type HH4.out h2 (by decide) (e.symm.trans hk)
          · obtain ⟨⟨cur, h2⟩, _⟩ := row_is (HB3.out.od ho4)
            exact heap_type HH4.out h2 (by decide) (e.symm.trans hk)
          · obtain ⟨cs, h2⟩ := HB3.out.is hk
            exact heap_type HH4.out h2 (by decide) e.symm))
        have F5 := Lib.hid (HF4.out.trans f5 fun k _ h => .inl h)
        have H5 : Hid (((wr.setCell ⟨go, T.first, none⟩ (.pointer none)).setCell ⟨t, 1, none⟩ (.slice none 0 0)).heap[t]? = some (.cells #[.slice (some ⟨gn, 0, none⟩) T.now.length T.now.length, .slice none 0 0, .int .i64 ((T.left : Int) - 1), .int .i64 T.n] 93 (0, 0))) := by
          have := heap_setCell_same (wr.setCell ⟨go, T.first, none⟩ (.pointer none)) t 1 _ _ (.slice none 0 0) HH4.out
          exact Lib.hid (by simpa using this)
        clear f5 h1
        go_wp2_with fail
        go_end0
        refine ⟨rfl, ⟨?_, B5.out, F5.out⟩⟩
        rw [if_pos HE.out, H5.out, HE.out]
        rfl
      · have h1' : ¬ ((T.left : Int) - 1) = 0 := by omega
        have HE := Lib.hid h1
        clear h1
        go_wp2_with fail
        go_end0
        refine ⟨rfl, ⟨?_, HB3.out, HF4.out⟩⟩
        rw [if_neg HE.out, HH4.out, HOV.out, Int.ofNat_sub h0]
        rfl
    | cons e r =>
      obtain ⟨B1, b2, b3, b4, b5, b6⟩ := HB.out.take hfi
      have e0 : wr.cell? ⟨e.b, 0, none⟩ = some (.string e.key) := cell_of_row wr e.b 0 _ _ (0, 0) b3
      have e2 : wr.cell? ⟨e.b, 2, none⟩ = some (hookV r) := cell_of_row wr e.b 2 _ _ (0, 0) b3
      have ef := frozen_of_row wr e.b 2 _ _ b3
      have hez : e.key.size < 9223372036854775808 := hz e (by
        unfold Tb.all
        rw [List.mem_append]
        refine .inr (mem_flatten_getD.2 ⟨T.first, hfi, ?_⟩)
        rw [← HC.out, hdr.out]
        simp)
      have hp := F.pos
      have hnl : (done.foldl pushE T.now).length = T.now.length := foldE_len _ _
      have hjl := Nat.mod_lt (hashK e.key) hp
      clear B1 b2 b3
      have hev : hookV (e :: r) = .pointer (some ⟨e.b, 0, none⟩) := rfl
      rw [hev]
      go_wp2_with fail
      have hh := hashK_lt e.key
      have hbg := F.big
      have h1 : ((hashK e.key : Nat) : Int) % (T.now.length : Int) < (T.now.length : Int) := by omega
      have h2 : 0 ≤ ((hashK e.key : Nat) : Int) % (T.now.length : Int) := by omega
      go_quiet ((go_at_call 61; exact quietL (hash_eq _ hez)))
      have fq : Fr Nob wr (wr.drewN nq) := (Fr.refl Nob wr).drewN nq
      have HH2 := Lib.hid (fq.heap HH.out (fun h => h))
      have HB2 := Lib.hid (HB.out.keep fq fun _ _ h => h)
      have HF2 := Lib.hid (HF.out.trans' fq.nob)
      clear fq HH HB HF g0 g1 g2 gf e0 e2 ef
      generalize wr.drewN nq = w2 at *
      obtain ⟨B1, b2, b3, _, _, _⟩ := HB2.out.take hfi
      have HM := Lib.hid (HB2.out.moved hfi (by rw [hnl]; exact hp))
      have ef := frozen_of_row w2 e.b 2 _ _ b3
      have hj0 : (done.foldl pushE T.now)[hashK e.key % T.now.length]? = some ((done.foldl pushE T.now).getD (hashK e.key % T.now.length) []) := by
        rw [List.getD_eq_getElem?_getD, List.getElem?_eq_getElem (by rw [hnl]; exact hjl)]; rfl
      obtain ⟨r1, r2⟩ := row_at' HB2.out.nw (i := hashK e.key % T.now.length) (v := hookV ((done.foldl pushE T.now).getD (hashK e.key % T.now.length) [])) (by rw [List.getElem?_map, hj0]; rfl)
      rw [hnl] at HM
      obtain ⟨av, hav⟩ := hookV_form ((done.foldl pushE T.now).getD (hashK e.key % T.now.length) [])
      rw [hav] at r1 HM
      have e3 : w2.cell? ⟨e.b, 2, none⟩ = some (hookV r) := cell_of_row w2 e.b 2 _ _ (0, 0) b3
      clear B1 b2 hj0 hav
      have hbo : BOwn gn go T.now T.old e.b := by
        refine .inr (.inr ?_)
        rw [bOf_app, List.mem_append]
        refine .inr (mem_b.2 ⟨c, ?_, ?_⟩)
        · rw [HC.out]; exact List.mem_of_getElem? HG.out
        · rw [hdr.out, bOf_app, List.mem_append]
          exact .inr (List.mem_cons_self ..)
      have f3 : Fr (fun k => k = e.b ∨ k = gn) w2 ((w2.setCell ⟨e.b, 2, none⟩ (.pointer av)).setCell ⟨gn, hashK e.key % T.now.length, none⟩ (.pointer (some ⟨e.b, 0, none⟩))) :=
        ((Fr.refl _ w2).setCell ⟨e.b, 2, none⟩ (fun _ => .inl rfl) _).setCell ⟨gn, hashK e.key % T.now.length, none⟩ (fun _ => .inr rfl) _
      have HH3 := Lib.hid (f3.heap HH2.out (by
        rintro (h | h)
        · exact heap_type HH2.out b3 (by decide) h
        · obtain ⟨⟨cur, k2⟩, _⟩ := row_is HB2.out.nw
          exact heap_type HH2.out k2 (by decide) h))
      have HF3 := Lib.hid (HF2.out.trans f3 fun k _ h => by
        rcases h with h | h
        · exact .inr (h ▸ hbo)
        · exact .inr (.inl h))
      clear f3 hbo b3
      go_wp2_with fail
      go_roundg r.length
      case measure => simp
      case rel =>
        refine ⟨done ++ [e], r, Lib.hid (by rw [hdr.out]; simp), rfl, rfl, HH3, ?_, HF3⟩
        rw [List.foldl_append]
        exact HM
end
end Go.Proofs.Ytpbbokpmlemboaa.Tb
