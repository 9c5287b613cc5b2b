/-
  Plain facts: which chunks are taken behind a take, behind a free; how many.
-/
import Derived.Test.YtamcnieneelmmaaSlabLeft
namespace Go.Proofs.Ytamcnieneelmmaa

def usSum (S : List Pg) : Int := sumBy Pg.us S

theorem isTaken_set {S : List Pg} {i k : Nat} (hi : i < S.length) (hk : k < 64) (c u : Int) (b : Bool) (y : Int) :
    isTaken (S.set i ⟨c, upd S[i].tk k b, u⟩) y = if y = 64 * (i : Int) + (k : Int) then b else isTaken S y := by
  unfold isTaken
  rw [List.length_set]
  by_cases h0 : 0 ≤ y
  · by_cases h1 : y / 64 < S.length
    · have hlt : (y / 64).toNat < S.length := by omega
      rw [decide_eq_true h0, decide_eq_true h1, Bool.true_and, Bool.true_and, getD_of (by rw [List.length_set]; exact hlt), getD_of hlt]
      by_cases e : (y / 64).toNat = i
      · subst e
        rw [List.getElem_set_self]
        show upd _ _ _ _ = _
        unfold upd
        by_cases e2 : (y % 64).toNat = k
        · rw [if_pos e2, if_pos (by omega)]
        · rw [if_neg e2, if_neg (by omega), Bool.true_and]
      · rw [List.getElem_set_ne (fun h => e h.symm), if_neg (by omega), Bool.true_and]
    · rw [decide_eq_false h1, if_neg (by omega)]
      simp
  · rw [decide_eq_false h0, if_neg (by omega)]
    simp

theorem usSum_set {S : List Pg} {i : Nat} (hi : i < S.length) (q : Pg) : usSum (S.set i q) = usSum S - S[i].us + q.us := by
  unfold usSum sumBy
  induction S generalizing i with
  | nil => simp at hi
  | cons p S ih =>
    cases i with
    | zero => simp only [List.set_cons_zero, List.map_cons, List.sum_cons, List.getElem_cons_zero]; omega
    | succ i =>
      simp only [List.set_cons_succ, List.map_cons, List.sum_cons, List.getElem_cons_succ]
      have := ih (i := i) (by simpa using hi)
      omega

theorem findIdx_facts {f : Pg → Bool} {S : List Pg} {i : Nat} (h : S.findIdx? f = some i) : ∃ hi : i < S.length, f (S[i]'hi) = true := by
  rw [List.findIdx?_eq_some_iff_getElem] at h
  obtain ⟨hi, h1, _⟩ := h
  exact ⟨hi, h1⟩

theorem slot_facts {S : List Pg} {c : Int} {i : Nat} (hok : ∀ q, q ∈ S → q.ok) (h : slot S c = some i) : ∃ hi : i < S.length, fits1 c (S[i]'hi) = true ∨ (S[i]'hi).us = 0 := by
  unfold slot at h
  rw [Option.or_eq_some_iff] at h
  rcases h with h | ⟨_, h⟩
  · obtain ⟨hi, h1⟩ := findIdx_facts h
    exact ⟨hi, .inl h1⟩
  · rw [Option.or_eq_some_iff] at h
    rcases h with h | ⟨_, h⟩
    · obtain ⟨hi, h1⟩ := findIdx_facts h
      refine ⟨hi, .inr ?_⟩
      have h2 : (S[i]'hi).cls = -1 := by simpa [fits2] using h1
      rcases ok_of_mem hok hi with h3 | h3
      · exact h3.2.1
      · omega
    · obtain ⟨hi, h1⟩ := findIdx_facts h
      exact ⟨hi, .inr (by simpa [fits3] using h1)⟩

theorem slot_none_us {S : List Pg} {c : Int} (hok : ∀ q, q ∈ S → q.ok) (h : slot S c = none) : ∀ q, q ∈ S → 1 ≤ q.us := by
  unfold slot at h
  rw [Option.or_eq_none_iff, Option.or_eq_none_iff] at h
  obtain ⟨_, _, h3⟩ := h
  rw [List.findIdx?_eq_none_iff] at h3
  intro q hq
  have := h3 q hq
  have h4 : ¬ q.us = 0 := by simpa [fits3] using this
  have := (hok q hq).us
  omega

theorem usSum_ge {S : List Pg} (h : ∀ q, q ∈ S → 1 ≤ q.us) : (S.length : Int) ≤ usSum S := by
  induction S with
  | nil => simp [usSum, sumBy]
  | cons q S ih =>
    have := ih fun r hr => h r (List.mem_cons_of_mem _ hr)
    have h1 := h q List.mem_cons_self
    simp only [usSum, sumBy, List.map_cons, List.sum_cons, List.length_cons] at this ⊢
    omega

/-- The page that a take takes out of has a free chunk, its least. -/
theorem slot_free {S : List Pg} {c : Int} {i : Nat} (h0 : 0 ≤ c) (h6 : c < 6) (hok : ∀ q, q ∈ S → q.ok) (h : slot S c = some i) :
    ∃ hi : i < S.length, freeIn (S[i]'hi).tk < 64 ∧ (S[i]'hi).tk (freeIn (S[i]'hi).tk) = false ∧ ∀ j, j < freeIn (S[i]'hi).tk → (S[i]'hi).tk j = true := by
  obtain ⟨hi, h1⟩ := slot_facts hok h
  refine ⟨hi, ?_⟩
  have hp := chunksOf_pos c h0 h6
  rcases h1 with h1 | h1
  · have hh : (S[i]'hi).cls = c ∧ (S[i]'hi).us < chunksOf c := by simpa [fits1] using h1
    obtain ⟨⟨a1, a2, a3⟩, _⟩ := (ok_of_mem hok hi).free (by rw [hh.1]; exact h0) (by rw [hh.1]; exact hh.2)
    rw [hh.1] at a1
    exact ⟨by omega, a2, a3⟩
  · have he := (ok_of_mem hok hi).empty h1
    have hf : freeIn (S[i]'hi).tk = 0 := freeIn_of _ 0 (by omega) (he 0) (fun j hj => by omega)
    rw [hf]
    exact ⟨by omega, he 0, fun j hj => by omega⟩

structure Gone (S S' : List Pg) (x : Int) (b : Bool) : Prop where
  was : isTaken S x = !b
  now : ∀ y, isTaken S' y = if y = x then b else isTaken S y
  sum : usSum S' = usSum S + (if b then 1 else -1)

theorem take_gone {S : List Pg} {c : Int} (h0 : 0 ≤ c) (h6 : c < 6) (hok : ∀ q, q ∈ S → q.ok) (he : takeE S c = 0) :
    Gone S (takeS S c) (takeN S c) true ∧ 0 ≤ takeN S c ∧ takeN S c < 64 * (S.length : Int) := by
  have hin : inCls c = true := by simp [inCls, h0, h6]
  cases hs : slot S c with
  | none => rw [(take_full hin hs).2.2] at he; cases he
  | some i =>
    obtain ⟨t1, t2, _⟩ := take_slot hin hs
    obtain ⟨hi, f1, f2, f3⟩ := slot_free h0 h6 hok hs
    rw [getD_of hi] at t1 t2
    rw [t1, t2]
    refine ⟨⟨?_, fun y => ?_, ?_⟩, by omega, by omega⟩
    · unfold isTaken
      have e1 : (64 * (i : Int) + (freeIn S[i].tk : Int)) / 64 = i := by omega
      have e2 : (64 * (i : Int) + (freeIn S[i].tk : Int)) % 64 = freeIn S[i].tk := by omega
      rw [e1, e2, Int.toNat_natCast, Int.toNat_natCast, getD_of hi, f2]
      simp
    · exact isTaken_set hi f1 _ _ _ y
    · rw [usSum_set hi]
      simp only [if_true]
      omega
theorem take_sevens {S : List Pg} {c : Int} (h0 : 0 ≤ c) (h6 : c < 6) : takeE S c = 0 ∨ (takeE S c = 7 ∧ slot S c = none) := by
  have hin : inCls c = true := by simp [inCls, h0, h6]
  cases hs : slot S c with
  | none => exact .inr ⟨(take_full hin hs).2.2, rfl⟩
  | some i => exact .inl (take_slot hin hs).2.2

theorem free_gone {S : List Pg} {x : Int} (hx : isTaken S x = true) : Gone S (freeS S x) x false := by
  obtain ⟨h0, h1, h2⟩ := isTaken_parts hx
  have hlt : (x / 64).toNat < S.length := by omega
  have hf : freeS S x = S.set (x / 64).toNat ⟨S[(x / 64).toNat].cls, upd S[(x / 64).toNat].tk (x % 64).toNat false, S[(x / 64).toNat].us - 1⟩ := by
    unfold freeS
    rw [if_pos hx, getD_of hlt]
  refine ⟨by rw [hx]; rfl, fun y => ?_, ?_⟩
  · rw [hf, isTaken_set hlt (by omega)]
    have : (64 * ((x / 64).toNat : Int) + ((x % 64).toNat : Int)) = x := by omega
    rw [this]
  · rw [hf, usSum_set hlt]
    simp
    omega

/-- What SlabApart keeps: the list's chunks are taken, each once, and there are no others. -/
structure Kept (S : List Pg) (T : List Int) : Prop where
  all : ∀ x, x ∈ T → isTaken S x = true
  once : T.Nodup
  sum : usSum S = T.length

theorem Kept.take {S : List Pg} {T : List Int} {c : Int} (h : Kept S T) (h0 : 0 ≤ c) (h6 : c < 6) (hok : ∀ q, q ∈ S → q.ok) (he : takeE S c = 0) :
    (∀ x, x ∈ T → x ≠ takeN S c) ∧ Kept (takeS S c) (T ++ [takeN S c]) := by
  obtain ⟨⟨g1, g2, g3⟩, _, _⟩ := take_gone h0 h6 hok he
  have hne : ∀ x, x ∈ T → x ≠ takeN S c := fun x hx e => by
    have := h.all x hx
    rw [e, g1] at this
    cases this
  refine ⟨hne, ⟨fun x hx => ?_, ?_, ?_⟩⟩
  · rw [g2]
    rw [List.mem_append] at hx
    rcases hx with hx | hx
    · rw [if_neg (hne x hx)]; exact h.all x hx
    · rw [if_pos (by simpa using hx)]
  · rw [List.nodup_append]
    refine ⟨h.once, by simp, fun a ha b hb => ?_⟩
    have : b = takeN S c := by simpa using hb
    rw [this]; exact hne a ha
  · rw [g3, h.sum]; simp
theorem Kept.free {S : List Pg} {T : List Int} (h : Kept S T) {k : Nat} (hk : k < T.length) : Kept (freeS S T[k]) (T.eraseIdx k) := by
  have hx := h.all T[k] (List.getElem_mem hk)
  obtain ⟨g1, g2, g3⟩ := free_gone hx
  refine ⟨fun x hx2 => ?_, h.once.eraseIdx k, ?_⟩
  · rw [g2]
    have hmem : x ∈ T := List.mem_of_mem_eraseIdx hx2
    have hne : x ≠ T[k] := fun e => by
      rw [List.mem_eraseIdx_iff_getElem] at hx2
      obtain ⟨j, hj, hjk, hjx⟩ := hx2
      have hpw := List.pairwise_iff_getElem.1 h.once
      rcases Nat.lt_or_gt_of_ne hjk with hlt | hlt
      · exact hpw j k hj hk hlt (by rw [hjx, e])
      · exact hpw k j hk hj hlt (by rw [hjx, e])
    rw [if_neg hne]
    exact h.all x hmem
  · rw [g3, h.sum, List.length_eraseIdx_of_lt hk]
    simp
    omega
theorem Kept.full {S : List Pg} {T : List Int} {c : Int} (h : Kept S T) (hok : ∀ q, q ∈ S → q.ok) (hs : slot S c = none) : S.length ≤ T.length := by
  have := usSum_ge (slot_none_us hok hs)
  have := h.sum
  omega

def usedBelow (S : List Pg) : Nat → Int
  | 0 => 0
  | k + 1 => usedBelow S k + sumBy (usedF k) S
theorem usedBelow_cons (q : Pg) (S : List Pg) (k : Nat) : usedBelow (q :: S) k = usedBelow S k + (if 0 ≤ q.cls ∧ q.cls < k then q.us else 0) := by
  induction k with
  | zero => simp [usedBelow]; omega
  | succ k ih =>
    unfold usedBelow
    rw [ih]
    simp only [sumBy, List.map_cons, List.sum_cons]
    have : usedF (k : Int) q = if q.cls = (k : Int) then q.us else 0 := by
      unfold usedF
      by_cases h : q.cls = (k : Int)
      · simp [h]
      · simp [h]
    rw [this]
    have e : ((k + 1 : Nat) : Int) = (k : Int) + 1 := by omega
    rw [e]
    (repeat' split) <;> omega
theorem used_sum (S : List Pg) (h : ∀ q, q ∈ S → q.ok) : usedBelow S 6 = usSum S := by
  induction S with
  | nil => rfl
  | cons q S ih =>
    have := ih fun r hr => h r (List.mem_cons_of_mem _ hr)
    rw [usedBelow_cons, this]
    simp only [usSum, sumBy, List.map_cons, List.sum_cons]
    have hq := h q List.mem_cons_self
    rcases hq with hq | hq
    · rw [if_neg (by omega)]; omega
    · rw [if_pos ⟨hq.1, hq.2.1⟩]; omega
theorem usedBelow_bd (S : List Pg) (h : ∀ q, q ∈ S → q.ok) (hl : S.length ≤ 1024) (k : Nat) (hk : k ≤ 6) : 0 ≤ usedBelow S k ∧ usedBelow S k ≤ 65536 * k := by
  induction k with
  | zero => simp [usedBelow]
  | succ k ih =>
    have := ih (by omega)
    have h2 := used_bd (c := (k : Int)) (k := S.length) h hl
    rw [List.take_length] at h2
    unfold usedBelow
    omega

end Go.Proofs.Ytamcnieneelmmaa
