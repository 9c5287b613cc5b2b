/-
  dram: plain facts on the slab's pages and on the numbers' lists, as the laws of these packages have them.
-/
import Derived.Test.YtpbbokpmlemboaaSlabE
import Derived.Test.YtpbbokpmlemboaaSegE
namespace Go.Proofs.Ytpbbokpmlemboaa
open Sl
def usSum (S : List Pg) : Int := sumBy Pg.us S
theorem isTaken_set {S : List Pg} {i k : Nat} (hi : i < S.length) (hk : k < 64) (c u : Int) (b : Bool) (y : Int) :
    isTaken (S.set i ⟨c, upd S[i].tk k b, u⟩) y = if y = 64 * (i : Int) + (k : Int) then b else isTaken S y := by
  unfold isTaken
  rw [List.length_set]
  by_cases h0 : 0 ≤ y
  · by_cases h1 : y / 64 < S.length
    · have hlt : (y / 64).toNat < S.length := by omega
      rw [decide_eq_true h0, decide_eq_true h1, Bool.true_and, Bool.true_and, getD_of (by rw [List.length_set]; exact hlt), getD_of hlt]
      by_cases e : (y / 64).toNat = i
      · subst e
        rw [List.getElem_set_self]
        show upd _ _ _ _ = _
        unfold upd
        by_cases e2 : (y % 64).toNat = k
        · rw [if_pos e2, if_pos (by omega)]
        · rw [if_neg e2, if_neg (by omega), Bool.true_and]
      · rw [List.getElem_set_ne (fun h => e h.symm), if_neg (by omega), Bool.true_and]
    · rw [decide_eq_false h1, if_neg (by omega)]
      simp
  · rw [decide_eq_false h0, if_neg (by omega)]
    simp
theorem usSum_set {S : List Pg} {i : Nat} (hi : i < S.length) (q : Pg) : usSum (S.set i q) = usSum S - S[i].us + q.us := by
  unfold usSum sumBy
  induction S generalizing i with
  | nil => simp at hi
  | cons p S ih =>
    cases i with
    | zero => simp only [List.set_cons_zero, List.map_cons, List.sum_cons, List.getElem_cons_zero]; omega
    | succ i =>
      simp only [List.set_cons_succ, List.map_cons, List.sum_cons, List.getElem_cons_succ]
      have := ih (i := i) (by simpa using hi)
      omega
theorem findIdx_facts {f : Pg → Bool} {S : List Pg} {i : Nat} (h : S.findIdx? f = some i) : ∃ hi : i < S.length, f (S[i]'hi) = true := by
  rw [List.findIdx?_eq_some_iff_getElem] at h
  obtain ⟨hi, h1, _⟩ := h
  exact ⟨hi, h1⟩
theorem slot_facts {S : List Pg} {c : Int} {i : Nat} (hok : ∀ q, q ∈ S → q.ok) (h : slot S c = some i) : ∃ hi : i < S.length, fits1 c (S[i]'hi) = true ∨ (S[i]'hi).us = 0 := by
  unfold slot at h
  rw [Option.or_eq_some_iff] at h
  rcases h with h | ⟨_, h⟩
  · obtain ⟨hi, h1⟩ := findIdx_facts h
    exact ⟨hi, .inl h1⟩
  · rw [Option.or_eq_some_iff] at h
    rcases h with h | ⟨_, h⟩
    · obtain ⟨hi, h1⟩ := findIdx_facts h
      refine ⟨hi, .inr ?_⟩
      have h2 : (S[i]'hi).cls = -1 := by simpa [fits2] using h1
      rcases ok_of_mem hok hi with h3 | h3
      · exact h3.2.1
      · omega
    · obtain ⟨hi, h1⟩ := findIdx_facts h
      exact ⟨hi, .inr (by simpa [fits3] using h1)⟩
theorem slot_none_us {S : List Pg} {c : Int} (hok : ∀ q, q ∈ S → q.ok) (h : slot S c = none) : ∀ q, q ∈ S → 1 ≤ q.us := by
  unfold slot at h
  rw [Option.or_eq_none_iff, Option.or_eq_none_iff] at h
  obtain ⟨_, _, h3⟩ := h
  rw [List.findIdx?_eq_none_iff] at h3
  intro q hq
  have := h3 q hq
  have h4 : ¬ q.us = 0 := by simpa [fits3] using this
  have := (hok q hq).us
  omega
theorem usSum_ge {S : List Pg} (h : ∀ q, q ∈ S → 1 ≤ q.us) : (S.length : Int) ≤ usSum S := by
  induction S with
  | nil => simp [usSum, sumBy]
  | cons q S ih =>
    have := ih fun r hr => h r (List.mem_cons_of_mem _ hr)
    have h1 := h q List.mem_cons_self
    simp only [usSum, sumBy, List.map_cons, List.sum_cons, List.length_cons] at this ⊢
    omega
/-- The page that a take takes out of has a free chunk, its least. -/
theorem slot_free {S : List Pg} {c : Int} {i : Nat} (h0 : 0 ≤ c) (h6 : c < 6) (hok : ∀ q, q ∈ S → q.ok) (h : slot S c = some i) :
    ∃ hi : i < S.length, freeIn (S[i]'hi).tk < 64 ∧ (S[i]'hi).tk (freeIn (S[i]'hi).tk) = false ∧ ∀ j, j < freeIn (S[i]'hi).tk → (S[i]'hi).tk j = true := by
  obtain ⟨hi, h1⟩ := slot_facts hok h
  refine ⟨hi, ?_⟩
  have hp := chunksOf_pos c h0 h6
  rcases h1 with h1 | h1
  · have hh : (S[i]'hi).cls = c ∧ (S[i]'hi).us < chunksOf c := by simpa [fits1] using h1
    obtain ⟨⟨a1, a2, a3⟩, _⟩ := (ok_of_mem hok hi).free (by rw [hh.1]; exact h0) (by rw [hh.1]; exact hh.2)
    rw [hh.1] at a1
    exact ⟨by omega, a2, a3⟩
  · have he := (ok_of_mem hok hi).empty h1
    have hf : freeIn (S[i]'hi).tk = 0 := freeIn_of _ 0 (by omega) (he 0) (fun j hj => by omega)
    rw [hf]
    exact ⟨by omega, he 0, fun j hj => by omega⟩
structure Gone (S S' : List Pg) (x : Int) (b : Bool) : Prop where
  was : isTaken S x = !b
  now : ∀ y, isTaken S' y = if y = x then b else isTaken S y
  sum : usSum S' = usSum S + (if b then 1 else -1)
theorem take_gone {S : List Pg} {c : Int} (h0 : 0 ≤ c) (h6 : c < 6) (hok : ∀ q, q ∈ S → q.ok) (he : takeE S c = 0) :
    Gone S (takeS S c) (takeN S c) true ∧ 0 ≤ takeN S c ∧ takeN S c < 64 * (S.length : Int) := by
  have hin : inCls c = true := by simp [inCls, h0, h6]
  cases hs : slot S c with
  | none => rw [(take_full hin hs).2.2] at he; cases he
  | some i =>
    obtain ⟨t1, t2, _⟩ := take_slot hin hs
    obtain ⟨hi, f1, f2, f3⟩ := slot_free h0 h6 hok hs
    rw [getD_of hi] at t1 t2
    rw [t1, t2]
    refine ⟨⟨?_, fun y => ?_, ?_⟩, by omega, by omega⟩
    · unfold isTaken
      have e1 : (64 * (i : Int) + (freeIn S[i].tk : Int)) / 64 = i := by omega
      have e2 : (64 * (i : Int) + (freeIn S[i].tk : Int)) % 64 = freeIn S[i].tk := by omega
      rw [e1, e2, Int.toNat_natCast, Int.toNat_natCast, getD_of hi, f2]
      simp
    · exact isTaken_set hi f1 _ _ _ y
    · rw [usSum_set hi]
      simp only [if_true]
      omega
theorem take_sevens {S : List Pg} {c : Int} (h0 : 0 ≤ c) (h6 : c < 6) : takeE S c = 0 ∨ (takeE S c = 7 ∧ slot S c = none) := by
  have hin : inCls c = true := by simp [inCls, h0, h6]
  cases hs : slot S c with
  | none => exact .inr ⟨(take_full hin hs).2.2, rfl⟩
  | some i => exact .inl (take_slot hin hs).2.2
theorem free_gone {S : List Pg} {x : Int} (hx : isTaken S x = true) : Gone S (freeS S x) x false := by
  obtain ⟨h0, h1, h2⟩ := isTaken_parts hx
  have hlt : (x / 64).toNat < S.length := by omega
  have hf : freeS S x = S.set (x / 64).toNat ⟨S[(x / 64).toNat].cls, upd S[(x / 64).toNat].tk (x % 64).toNat false, S[(x / 64).toNat].us - 1⟩ := by
    unfold freeS
    rw [if_pos hx, getD_of hlt]
  refine ⟨by rw [hx]; rfl, fun y => ?_, ?_⟩
  · rw [hf, isTaken_set hlt (by omega)]
    have : (64 * ((x / 64).toNat : Int) + ((x % 64).toNat : Int)) = x := by omega
    rw [this]
  · rw [hf, usSum_set hlt]
    simp
    omega
theorem takeS_len (S : List Pg) (c : Int) : (takeS S c).length = S.length := by
  unfold takeS
  split
  · split
    · rfl
    · simp
  · rfl
theorem freeS_len (S : List Pg) (x : Int) : (freeS S x).length = S.length := by
  unfold freeS
  split
  · simp
  · rfl
theorem usSum_new (m : Nat) : usSum (List.replicate m Pg.new) = 0 := by
  induction m with
  | zero => rfl
  | succ m ih =>
    simp only [usSum, sumBy, List.replicate_succ, List.map_cons, List.sum_cons] at ih ⊢
    rw [ih]
    rfl
theorem taken_lt {S : List Pg} {x : Int} (h : isTaken S x = true) (hl : S.length ≤ 1024) : x ≤ 65536 := by
  obtain ⟨_, h1, _⟩ := isTaken_parts h
  omega
theorem classOf_out {x : Int} (h : x < 0 ∨ 2048 < x) : classOf x = -1 := by
  unfold classOf
  rcases h with h | h
  · rw [if_neg (by omega)]
  · rw [if_pos (by omega), if_neg (by omega), if_neg (by omega), if_neg (by omega), if_neg (by omega), if_neg (by omega), if_neg (by omega)]
theorem classOf_in {x : Int} (h0 : 0 ≤ x) (h1 : x ≤ 2048) : 0 ≤ classOf x ∧ classOf x < 6 ∧ x ≤ chunkOf (classOf x) ∧ (0 < classOf x → chunkOf (classOf x - 1) < x) := by
  obtain ⟨c0, c1, c2, c3, c4, c5⟩ := chunkOf_lit
  have key : ∀ c : Int, classOf x = c → 0 ≤ c → c < 6 → x ≤ chunkOf c → (0 < c → chunkOf (c - 1) < x) → 0 ≤ classOf x ∧ classOf x < 6 ∧ x ≤ chunkOf (classOf x) ∧ (0 < classOf x → chunkOf (classOf x - 1) < x) := by
    intro c h a1 a2 a3 a4; rw [h]; exact ⟨a1, a2, a3, a4⟩
  by_cases a0 : x ≤ 64
  · exact key 0 (by unfold classOf; rw [if_pos h0, if_pos a0]) (by omega) (by omega) (by omega) (by omega)
  by_cases a1 : x ≤ 128
  · exact key 1 (by unfold classOf; rw [if_pos h0, if_neg a0, if_pos a1]) (by omega) (by omega) (by omega) (fun _ => by show chunkOf 0 < x; omega)
  by_cases a2 : x ≤ 256
  · exact key 2 (by unfold classOf; rw [if_pos h0, if_neg a0, if_neg a1, if_pos a2]) (by omega) (by omega) (by omega) (fun _ => by show chunkOf 1 < x; omega)
  by_cases a3 : x ≤ 512
  · exact key 3 (by unfold classOf; rw [if_pos h0, if_neg a0, if_neg a1, if_neg a2, if_pos a3]) (by omega) (by omega) (by omega) (fun _ => by show chunkOf 2 < x; omega)
  by_cases a4 : x ≤ 1024
  · exact key 4 (by unfold classOf; rw [if_pos h0, if_neg a0, if_neg a1, if_neg a2, if_neg a3, if_pos a4]) (by omega) (by omega) (by omega) (fun _ => by show chunkOf 3 < x; omega)
  · exact key 5 (by unfold classOf; rw [if_pos h0, if_neg a0, if_neg a1, if_neg a2, if_neg a3, if_neg a4, if_pos h1]) (by omega) (by omega) (by omega) (fun _ => by show chunkOf 4 < x; omega)
theorem Sunk.hot {q : Nat} {S S' : Sg} (k : Sunk q 1 S S') : S'.h = S.h := by
  generalize ht : 1 = t at k
  induction k with
  | done => rfl
  | more h hl _ ih =>
    subst ht
    rw [ih]
    unfold Sg.sink
    split <;> rfl
theorem Added.fits {S S' : Sg} {x : Int} (h : Added S x S') : S'.h.length ≤ (S'.tot + 4) / 5 ∧ S'.m.length ≤ 2 * S'.tot / 5 := by
  have ht : S'.tot = S.tot + 1 := by
    obtain ⟨S1, k1, k2⟩ := h
    rw [k2.tot (by omega), k1.tot (by omega), Sg.tot_pushed _ _ (by omega)]
  obtain ⟨S1, k1, k2⟩ := h
  have f1 := k1.fit
  have f2 := k2.fit
  refine ⟨?_, ?_⟩
  · rw [k2.hot, ht]
    exact f1
  · rw [ht]
    exact f2
theorem AddTo.tot {S S' : Sg} {x : Int} (h : AddTo S x S') : S'.tot ≤ S.tot + 1 := by
  obtain ⟨_, h1, h2⟩ := h
  cases hs : (getM S.I x).isSome with
  | true => rw [h1 hs]; omega
  | false =>
    obtain ⟨S1, k1, k2⟩ := h2 hs
    rw [k2.tot (by omega), k1.tot (by omega), Sg.tot_pushed _ _ (by omega)]
    omega
theorem RemTo.tot {S S' : Sg} {x : Int} (h : RemTo S x S') : S'.tot ≤ S.tot := by
  obtain ⟨_, h1, h2⟩ := h
  cases hs : (getM S.I x).isSome with
  | true =>
    obtain ⟨t, a, b, ht, hl, rfl⟩ := h1 hs
    have := S.tot_set ht (a ++ b)
    rw [hl] at this
    simp at this
    show (S.set t (a ++ b)).tot ≤ _
    omega
  | false => rw [h2 hs]; omega
theorem Left.tot {S S' : Sg} {x : Int} (h : Left S x S') : S'.tot + 1 = S.tot := by
  have : ∀ {t : Nat} {l : List Int}, t < 3 → S.get t = l ++ [x] → ((S.set t l).gone x).tot + 1 = S.tot := by
    intro t l ht hl
    have := S.tot_set ht l
    rw [hl] at this
    simp at this
    show (S.set t l).tot + 1 = _
    omega
  cases h with
  | cold h => exact this (by omega) h
  | warm _ h => exact this (t := 1) (by omega) h
  | hot _ _ h => exact this (t := 0) (by omega) h
theorem EvTo.tot {S S' : Sg} {x : Int} {ok : Bool} (h : EvTo S x ok S') : S'.tot ≤ S.tot := by
  obtain ⟨_, S1, m, h⟩ := h
  rcases h with ⟨_, h⟩ | ⟨_, _, _, rfl⟩
  · have := h.tot
    have := m.tot
    omega
  · rw [m.tot]
    exact Nat.le_refl _
theorem Sg.sink_I (S : Sg) (t : Nat) (l : List Int) (x : Int) : (S.sink t l x).I = setM S.I x ((if S.isUsed x then 1 else 2 : Nat) : Int) := by
  show setM (S.set t l).I x _ = _
  rw [S.set_I]
theorem Sunk.keys {q t : Nat} (ht : t < 3) {S S' : Sg} (k : Sunk q t S S') (o : S.Ok) : ∀ x, (getM S'.I x).isSome = (getM S.I x).isSome := by
  induction k with
  | done => exact fun _ => rfl
  | more h hl _ ih =>
    rename_i S S' l y _
    intro x
    rw [ih (o.sink ht hl), S.sink_I, getM_setM]
    have hy := (o.inn y t ht).1 (by rw [hl]; simp)
    by_cases e : x = y
    · rw [if_pos e, e, hy]
      rfl
    · rw [if_neg e]
theorem Added.keys {S S' : Sg} {y : Int} (o : S.Ok) (hy : getM S.I y = Option.none) (h : Added S y S') : ∀ x, (getM S'.I x).isSome = true ↔ (x = y ∨ (getM S.I x).isSome = true) := by
  obtain ⟨S1, k1, k2⟩ := h
  have o0 := o.push hy (t := 0) (by omega)
  have o1 := k1.ok (by omega) o0
  intro x
  rw [k2.keys (by omega) o1, k1.keys (by omega) o0, show (S.pushed y 0).I = setM S.I y ((0 : Nat) : Int) from rfl, getM_setM]
  by_cases e : x = y
  · rw [if_pos e]
    simp [e]
  · rw [if_neg e]
    simp [e]
theorem Added.tot {S S' : Sg} {y : Int} (h : Added S y S') : S'.tot = S.tot + 1 := by
  obtain ⟨S1, k1, k2⟩ := h
  rw [k2.tot (by omega), k1.tot (by omega), Sg.tot_pushed _ _ (by omega)]
theorem SegAt.one {w : World} {p : Nat} {K K' : Nat → Prop} {S S' : Sg} (a : SegAt w p K S) (b : SegAt w p K' S') : ∀ k, K k ↔ K' k := by
  obtain ⟨ru, ri, V, s, h⟩ := a
  obtain ⟨ru', ri', V', s', h'⟩ := b
  have e := s.top.symm.trans s'.top
  simp only [Option.some.injEq, Obj.cells.injEq, Array.mk.injEq, List.cons.injEq, Value.map.injEq] at e
  obtain ⟨⟨e0, e1, e2, e3, e4, _⟩, _⟩ := e
  have ev : ∀ t, t < 3 → V t = V' t := fun t ht => by
    match t with
    | 0 => exact e0
    | 1 => exact e1
    | 2 => exact e2
    | t + 3 => omega
  have e3' : ru = ru' := by simpa using e3
  have e4' : ri = ri' := by simpa using e4
  subst e3'
  subst e4'
  intro k
  rw [h k, h' k]
  unfold SegOwn
  constructor
  · rintro (h | h | h | ⟨t, ht, h⟩)
    · exact .inl h
    · exact .inr (.inl h)
    · exact .inr (.inr (.inl h))
    · exact .inr (.inr (.inr ⟨t, ht, by rw [← ev t ht]; exact h⟩))
  · rintro (h | h | h | ⟨t, ht, h⟩)
    · exact .inl h
    · exact .inr (.inl h)
    · exact .inr (.inr (.inl h))
    · exact .inr (.inr (.inr ⟨t, ht, by rw [ev t ht]; exact h⟩))

end Go.Proofs.Ytpbbokpmlemboaa
