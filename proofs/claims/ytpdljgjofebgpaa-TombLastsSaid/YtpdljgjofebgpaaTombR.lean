/-
  tomb: pages behind a crash: plain.
-/
import Derived.Test.YtpdljgjofebgpaaTombGens
namespace Go.Proofs.Ytpdljgjofebgpaa

theorem modify_at {α : Type} {l : List α} {i j : Nat} {f : α → α} {c : α} (h : l[j]? = some c) : (l.modify i f)[j]? = some (if i = j then f c else c) := by
  rw [List.getElem?_modify, h]
  rfl
theorem now_some {D : Dv} {i : Nat} {c : Pc} (h : D.pg[i]? = some c) : D.now i = Pc.now c := by
  unfold Dv.now
  rw [List.getD_eq_getElem?_getD, h]
  rfl
theorem crash_on_at {D : Dv} (picks : List UInt8) {i : Nat} {c : Pc} (h : D.pg[i]? = some c) : (D.crash picks).on.pg[i]? = some (pick (fate picks (rank D.pg i)) c, none) := by
  show (settled (settled D.pg picks) [])[i]? = _
  have h1 := settled_at D.pg picks i c h
  rw [settled_at _ [] i _ h1]
  rfl
theorem crash_on_len (D : Dv) (picks : List UInt8) : (D.crash picks).on.pg.length = D.pg.length := by
  show (settled (settled D.pg picks) []).length = _
  rw [settled_len, settled_len]
theorem pick_none (f : Nat) (p : Pg) : pick f (p, none) = p := rfl
theorem pick_some (f : Nat) (a p : Pg) : pick f (a, some p) = a ∨ pick f (a, some p) = p ∨ pick f (a, some p) = .torn := by
  unfold pick
  simp only
  by_cases h0 : f = 0
  · left; rw [if_pos h0]
  · rw [if_neg h0]
    by_cases h1 : f = 1
    · right; left; rw [if_pos h1]
    · right; right; rw [if_neg h1]

/-! ### One page torn. -/
theorem change_pg {n : Nat} {D : Dv} (h : CalmN n D) (i : Nat) (p : Pg) : (D.change i p).pg = D.pg.modify i (fun c => (c.1, some p)) := by
  unfold Dv.change
  rw [h.spend, if_neg (by simp [h.2.1])]
  rfl
theorem still_at {D : Dv} (h : Still D) {i : Nat} (hi : i < D.pg.length) : D.pg[i]? = some (D.now i, none) := by
  have h1 := h.now i
  rw [List.getD_eq_getElem?_getD, List.getElem?_eq_getElem hi] at h1
  rw [List.getElem?_eq_getElem hi]
  have h2 := h _ (List.getElem_mem hi)
  rw [h1]
  simp only [Option.getD_some]
  congr 1
  exact Prod.ext rfl h2
theorem torn_now {n : Nat} {D : Dv} (hc : CalmN n D) (hs : Still D) {i : Nat} (hi : i < n) (p : Pg) (x : Nat) (hx : x < n) : ((D.change i p).crash [2]).on.now x = if x = i then .torn else D.now x := by
  have hl := hc.1
  have hat : (D.change i p).pg[x]? = some (D.now x, if x = i then some p else none) := by
    rw [change_pg hc, modify_at (still_at hs (by omega))]
    by_cases e : i = x
    · rw [if_pos e, if_pos e.symm]
    · rw [if_neg e, if_neg (Ne.symm e)]
  rw [now_some (crash_on_at [2] hat)]
  by_cases e : x = i
  · subst e
    rw [if_pos rfl, if_pos rfl]
    have hr : rank (D.change x p).pg x = 0 := by
      unfold rank
      rw [List.length_eq_zero_iff, List.filter_eq_nil_iff]
      intro c hcm
      obtain ⟨j, hj, rfl⟩ := List.getElem_of_mem hcm
      have hj' : j < x := by rw [List.length_take] at hj; omega
      rw [List.getElem_take]
      have h1 : (D.change x p).pg[j]? = some (D.now j, none) := by
        rw [change_pg hc, modify_at (still_at hs (by omega)), if_neg (by omega)]
      have h2 := List.getElem?_eq_some_iff.1 h1
      obtain ⟨h3, h4⟩ := h2
      rw [h4]
      simp
    rw [hr]
    rfl
  · rw [if_neg e, if_neg e]
    rfl

/-- Pages of a journal, one of them torn, read again. -/
theorem opened_torn {D : Dv} {gen n page : Nat} (hg : gen < 18446744073709551616) (l : Nat → List Mk) (hn : n ≤ 8) (hl : ∀ i, i < n → (l i).length ≤ 23 ∧ ∀ m, m ∈ l i → m.ok)
    (h1 : ∀ i, i < n → D.now (1 + i) = if i = page then .torn else .whole (pad (tpage gen (l i)))) (h2 : D.now (1 + n) = .blank) :
    (opened D 1 9 gen).used = n ∧ ∀ i, i < n → i ≠ page → ∀ m, m ∈ l i → goneB (opened D 1 9 gen).M m.1 m.2 = true := by
  obtain ⟨ps, hps⟩ : ∃ ps : List (Option (List Mk)), ps = (List.range n).map fun i => if i = page then none else some (l i) := ⟨_, rfl⟩
  have hlen : ps.length = n := by rw [hps]; simp
  have hget : ∀ i, i < n → ps.getD i none = if i = page then none else some (l i) := fun i hi => by
    rw [hps, List.getD_eq_getElem?_getD, List.getElem?_map, List.getElem?_range hi]
    rfl
  have hlies : Lies D.now (1 + 0) gen ps := fun i hi => by
    rw [hlen] at hi
    rw [hget i hi]
    have := h1 i hi
    by_cases e : i = page
    · rw [if_pos e] at this ⊢
      exact this
    · rw [if_neg e] at this ⊢
      exact ⟨this, hl i hi⟩
  have ho := openL_lies hg ps 1 9 0 [] hlies (by omega)
  rw [hlen, Nat.zero_add] at ho
  rw [openL_blank h2] at ho
  have e1 : (openL D.now 1 gen 9 0 []).1 = n := by rw [ho]
  have e2 : (openL D.now 1 gen 9 0 []).2 = noteL [] (allMarks ps) := by rw [ho]
  refine ⟨e1, fun i hi hne m hm => ?_⟩
  show goneB (openL D.now 1 gen 9 0 []).2 m.1 m.2 = true
  rw [e2]
  refine noteL_gone _ ?_
  unfold allMarks
  rw [List.mem_flatMap]
  refine ⟨some (l i), ?_, hm⟩
  rw [hps, List.mem_map]
  exact ⟨i, List.mem_range.2 hi, if_neg hne⟩

/-! ### A journal whose power may go. -/
theorem spend_off_of {D : Dv} (h : D.off = false) (hs : D.spend.off = true) : D.spend.loss = inc D.loss := by
  unfold Dv.spend at hs ⊢
  rw [if_neg (by simp [h])] at hs ⊢
  by_cases h1 : 0 < D.arm
  · rw [if_pos h1] at hs ⊢
    by_cases h2 : D.arm = 1
    · rw [if_pos h2]
    · rw [if_neg h2] at hs
      simp only at hs
      rw [h] at hs
      cases hs
  · rw [if_neg h1] at hs
    rw [h] at hs
    cases hs
theorem spend_on_of {D : Dv} (hs : D.spend.off = false) : D.off = false ∧ D.spend.loss = D.loss := by
  cases h : D.off with
  | true => rw [spend_off h, h] at hs; cases hs
  | false =>
    refine ⟨rfl, ?_⟩
    unfold Dv.spend at hs ⊢
    rw [if_neg (by simp [h])] at hs ⊢
    by_cases h1 : 0 < D.arm
    · rw [if_pos h1] at hs ⊢
      by_cases h2 : D.arm = 1
      · rw [if_pos h2] at hs
        cases hs
      · rw [if_neg h2]
    · rw [if_neg h1]

def GoodL (l : List Mk) : Prop := l.length ≤ 23 ∧ ∀ m, m ∈ l → m.ok

/-- What is known at each step: ps, the lists that were added; a page more may be under way. -/
structure LInv (D : Dv) (J : Jn) (ps : List (List Mk)) : Prop where
  len : D.pg.length = 14
  jf : J.first = 1
  jp : J.pages = 12
  jg : J.gen = 7
  jl : J.loss = 0
  ok : ∀ l, l ∈ ps → GoodL l
  whole : ∀ i, i < ps.length → D.pg[1 + i]? = some (.whole (pad (tpage 7 (ps.getD i []))), none)
  rest : ∀ i, ps.length ≤ i → 1 + i < 14 → ∃ o, D.pg[1 + i]? = some (.blank, o) ∧ (o = none ∨ (i = ps.length ∧ ∃ l, GoodL l ∧ o = some (.whole (pad (tpage 7 l)))))
  pw : (D.off = false ∧ D.loss = 0 ∧ J.used = ps.length ∧ ∀ c, c ∈ D.pg → c.2 = none) ∨ (D.off = true ∧ D.loss = 1)

theorem inc_zero : inc 0 = 1 := by show Go.RowKit.wrap64 (0 + 1) = 1; unfold Go.RowKit.wrap64; omega

theorem LInv.start {D : Dv} (h : LikeD (Dv.new 14) D) (x : Int) : LInv (D.armed x) ⟨1, 12, 7, 0, 0, []⟩ [] := by
  have hp : (D.armed x).pg = List.replicate 14 (.blank, none) := h.pg
  refine ⟨by rw [hp]; simp, rfl, rfl, rfl, rfl, fun l hl => by simp at hl, fun i hi => by simp at hi, fun i _ hi => ⟨none, ?_, .inl rfl⟩, .inl ⟨h.off, h.loss, rfl, fun c hc => ?_⟩⟩
  · rw [hp, List.getElem?_replicate, if_pos hi]
  · rw [hp, List.mem_replicate] at hc
    rw [hc.2]

theorem LInv.add {D : Dv} {J : Jn} {ps : List (List Mk)} (v : LInv D J ps) (hon : D.off = false) {l : List Mk} (hl : GoodL l) (hps : ps.length < 12) :
    ((addTo D J l).1 = 4 ∧ LInv (addTo D J l).2.1 (addTo D J l).2.2 ps) ∨ ((addTo D J l).1 = 0 ∧ LInv (addTo D J l).2.1 (addTo D J l).2.2 (ps ++ [l])) := by
  obtain ⟨_, hloss, hused, hstill⟩ : D.off = false ∧ D.loss = 0 ∧ J.used = ps.length ∧ ∀ c, c ∈ D.pg → c.2 = none := by
    rcases v.pw with h | ⟨h, _⟩
    · exact h
    · rw [hon] at h; cases h
  have hfst : J.first + J.used = 1 + ps.length := by rw [v.jf, hused]
  cases hs : D.spend.off with
  | true =>
    have hc : D.change (J.first + J.used) (.whole (pad (tpage J.gen l))) = D.spend := by unfold Dv.change; rw [if_pos hs]
    have ha : addTo D J l = (4, D.spend, J) := by unfold addTo; rw [if_pos hs, hc]
    left
    rw [ha]
    refine ⟨rfl, ⟨by rw [spend_pg]; exact v.len, v.jf, v.jp, v.jg, v.jl, v.ok, fun i hi => by rw [spend_pg]; exact v.whole i hi, fun i h1 h2 => by rw [spend_pg]; exact v.rest i h1 h2, .inr ⟨hs, ?_⟩⟩⟩
    show D.spend.loss = 1
    rw [spend_off_of hon hs, hloss, inc_zero]
  | false =>
    obtain ⟨_, hsl⟩ := spend_on_of hs
    obtain ⟨D1, hD1⟩ : ∃ D1, D1 = D.change (J.first + J.used) (.whole (pad (tpage J.gen l))) := ⟨_, rfl⟩
    have hc : D1 = D.spend.put (1 + ps.length) (.whole (pad (tpage 7 l))) := by rw [hD1, hfst, v.jg]; unfold Dv.change; rw [if_neg (by simp [hs])]
    have hpg : D1.pg = D.pg.modify (1 + ps.length) (fun c => (c.1, some (.whole (pad (tpage 7 l))))) := by rw [hc]; show D.spend.pg.modify _ _ = _; rw [spend_pg]
    have hoff1 : D1.off = false := by rw [hc]; exact hs
    have hl1 : D1.loss = 0 := by rw [hc]; show D.spend.loss = 0; rw [hsl, hloss]
    have hblank : D.pg[1 + ps.length]? = some (.blank, none) := by
      obtain ⟨o, h1, h2⟩ := v.rest ps.length (Nat.le_refl _) (by omega)
      have := hstill _ (List.mem_of_getElem? h1)
      simp only at this
      rw [h1, this]
    cases hs2 : D1.spend.off with
    | true =>
      have hf : D1.flush = D1.spend := by unfold Dv.flush; rw [if_pos hs2]
      have ha : addTo D J l = (4, D1.spend, { J with used := J.used + 1 }) := by unfold addTo; rw [if_neg (by simp [hs]), ← hD1, if_pos hs2, hf]
      left
      rw [ha]
      refine ⟨rfl, ⟨by rw [spend_pg, hpg]; simp [v.len], v.jf, v.jp, v.jg, v.jl, v.ok, fun i hi => ?_, fun i h1 h2 => ?_, .inr ⟨hs2, ?_⟩⟩⟩
      · show D1.spend.pg[1 + i]? = _
        rw [spend_pg, hpg, modify_at (v.whole i hi), if_neg (by omega)]
      · show ∃ o, D1.spend.pg[1 + i]? = _ ∧ _
        rw [spend_pg, hpg]
        by_cases e : i = ps.length
        · subst e
          rw [modify_at hblank, if_pos rfl]
          exact ⟨_, rfl, .inr ⟨rfl, l, hl, rfl⟩⟩
        · obtain ⟨o, h3, h4⟩ := v.rest i h1 h2
          rw [modify_at h3, if_neg (by omega)]
          refine ⟨o, rfl, ?_⟩
          rcases h4 with h4 | ⟨h4, _⟩
          · exact .inl h4
          · exact absurd h4 e
      · show D1.spend.loss = 1
        rw [spend_off_of hoff1 hs2, hl1, inc_zero]
    | false =>
      obtain ⟨_, hsl2⟩ := spend_on_of hs2
      have hf : D1.flush = D1.spend.sunk := by unfold Dv.flush; rw [if_neg (by simp [hs2])]
      have ha : addTo D J l = (0, D1.flush, { J with used := J.used + 1, M := noteL J.M l }) := by unfold addTo; rw [if_neg (by simp [hs]), ← hD1, if_neg (by simp [hs2])]
      have hpf : D1.flush.pg = D1.pg.map (fun c => (Pc.now c, none)) := by rw [hf]; show D1.spend.pg.map _ = _; rw [spend_pg]
      right
      rw [ha]
      have hlen : (ps ++ [l]).length = ps.length + 1 := by simp
      refine ⟨rfl, ⟨by rw [hpf, hpg]; simp [v.len], v.jf, v.jp, v.jg, v.jl, fun k hk => ?_, fun i hi => ?_, fun i h1 h2 => ?_, .inl ⟨by rw [hf]; exact hs2, by rw [hf]; show D1.spend.loss = 0; rw [hsl2, hl1], by show J.used + 1 = _; rw [hused, hlen], fun c hc => ?_⟩⟩⟩
      · rw [List.mem_append] at hk
        rcases hk with hk | hk
        · exact v.ok k hk
        · simp at hk; rw [hk]; exact hl
      · show D1.flush.pg[1 + i]? = _
        rw [hpf, List.getElem?_map, hpg]
        by_cases e : i = ps.length
        · subst e
          rw [modify_at hblank, if_pos rfl]
          simp [Pc.now, List.getD_eq_getElem?_getD]
        · rw [modify_at (v.whole i (by omega)), if_neg (by omega)]
          have : (ps ++ [l]).getD i [] = ps.getD i [] := by
            rw [List.getD_eq_getElem?_getD, List.getD_eq_getElem?_getD, List.getElem?_append_left (by omega)]
          rw [this]
          rfl
      · show ∃ o, D1.flush.pg[1 + i]? = _ ∧ _
        rw [hpf, List.getElem?_map, hpg]
        obtain ⟨o, h3, h4⟩ := v.rest i (by omega) h2
        rw [modify_at h3, if_neg (by omega)]
        refine ⟨none, ?_, .inl rfl⟩
        rcases h4 with h4 | ⟨h4, _⟩
        · rw [h4]; rfl
        · omega
      · have hc : c ∈ D1.flush.pg := hc
        rw [hpf, List.mem_map] at hc
        obtain ⟨y, _, rfl⟩ := hc
        rfl

/-- Behind a crash all that was added with OK is known. -/
theorem LInv.known {D : Dv} {J : Jn} {ps : List (List Mk)} (v : LInv D J ps) (picks : List UInt8) (hps : ps.length ≤ 12) : ∀ m, m ∈ ps.flatten → goneB (opened (D.crash picks).on 1 12 7).M m.1 m.2 = true := by
  have hw : ∀ i, i < ps.length → (D.crash picks).on.now (1 + i) = .whole (pad (tpage 7 (ps.getD i []))) := fun i hi => by
    rw [now_some (crash_on_at picks (v.whole i hi))]
    rfl
  have hlies : Lies (D.crash picks).on.now (1 + 0) 7 (ps.map some) := fun i hi => by
    rw [List.length_map] at hi
    have : (ps.map some).getD i none = some (ps.getD i []) := by
      rw [List.getD_eq_getElem?_getD, List.getD_eq_getElem?_getD, List.getElem?_map, List.getElem?_eq_getElem hi]
      rfl
    rw [this]
    have hm : ps.getD i [] ∈ ps := by
      rw [List.getD_eq_getElem?_getD, List.getElem?_eq_getElem hi]
      exact List.getElem_mem hi
    exact ⟨hw i hi, v.ok _ hm⟩
  have ho := openL_lies (by omega) (ps.map some) 1 12 0 [] hlies (by rw [List.length_map]; exact hps)
  have hall : allMarks (ps.map some) = ps.flatten := by
    unfold allMarks
    rw [List.flatMap_map]
    simp [List.flatMap]
  rw [List.length_map, Nat.zero_add, hall] at ho
  intro m hm
  show goneB (openL (D.crash picks).on.now 1 7 12 0 []).2 m.1 m.2 = true
  rw [ho]
  have hk : goneB (noteL [] ps.flatten) m.1 m.2 = true := noteL_gone _ hm
  by_cases h12 : ps.length = 12
  · rw [h12]
    exact hk
  · obtain ⟨d, hd⟩ : ∃ d, 12 - ps.length = d + 1 := ⟨11 - ps.length, by omega⟩
    rw [hd]
    have hnext : ∀ M, openL (D.crash picks).on.now 1 7 d (ps.length + 1) M = (ps.length + 1, M) := fun M => by
      by_cases h11 : d = 0
      · subst h11; rfl
      · refine openL_blank ?_
        obtain ⟨o, h1, h2⟩ := v.rest (ps.length + 1) (by omega) (by omega)
        rw [now_some (crash_on_at picks h1)]
        rcases h2 with h2 | ⟨h2, _⟩
        · rw [h2]; rfl
        · omega
    obtain ⟨o, h1, h2⟩ := v.rest ps.length (Nat.le_refl _) (by omega)
    have hn := now_some (crash_on_at picks h1)
    rcases h2 with h2 | ⟨_, l, hl, h2⟩
    · subst h2
      rw [openL_blank (by rw [hn]; rfl)]
      exact hk
    · subst h2
      rcases pick_some (fate picks (rank D.pg (1 + ps.length))) .blank (.whole (pad (tpage 7 l))) with e | e | e
      · rw [openL_blank (by rw [hn, e]; rfl)]
        exact hk
      · rw [openL_some (bs := pad (tpage 7 l)) (l := l) (by rw [hn, e]; rfl) (by unfold pad; rw [tread_page (by omega) hl.1 hl.2 7, if_pos rfl]), hnext]
        exact noteL_keep l hk
      · rw [openL_torn (by rw [hn, e]; rfl), hnext]
        exact hk

end Go.Proofs.Ytpdljgjofebgpaa
