/-
  Plain facts on the slab's pages: takes of one class, one behind the other; all that is taken given back.
-/
import Derived.Test.YtamcnieneelmmaaSlabE
namespace Go.Proofs.Ytamcnieneelmmaa

/-- A page out of which r chunks of class c were taken, in order; e0: none yet. -/
def pgRun (e0 : Pg) (c : Int) (r : Nat) : Pg := if r = 0 then e0 else ⟨c, fun k => decide (k < r), r⟩
/-- m pages behind n takes of class c. -/
def runS (e0 : Pg) (c : Int) (m n : Nat) : List Pg := (List.range m).map fun i => pgRun e0 c (min (chunksOf c).toNat (n - (chunksOf c).toNat * i))

structure Emp (e0 : Pg) (c : Int) : Prop where
  us : e0.us = 0
  tk : e0.tk = fun _ => false
  cls : e0.cls ≠ c

theorem runS_len (e0 : Pg) (c : Int) (m n : Nat) : (runS e0 c m n).length = m := by simp [runS]
theorem runS_get (e0 : Pg) (c : Int) (m n i : Nat) (h : i < (runS e0 c m n).length) : (runS e0 c m n)[i] = pgRun e0 c (min (chunksOf c).toNat (n - (chunksOf c).toNat * i)) := by simp [runS]

theorem pgRun_zero (e0 : Pg) (c : Int) : pgRun e0 c 0 = e0 := rfl
theorem pgRun_pos (e0 : Pg) (c : Int) {r : Nat} (h : 0 < r) : pgRun e0 c r = ⟨c, fun k => decide (k < r), r⟩ := by unfold pgRun; rw [if_neg (by omega)]

/-- Where the next chunk lies. -/
theorem run_parts {C n i : Nat} (hC : 0 < C) (hi : i = n / C) : min C (n - C * i) = n % C ∧ (∀ j, j < i → min C (n - C * j) = C) ∧ (∀ j, i < j → min C (n - C * j) = 0) ∧ n % C < C ∧ C * i + n % C = n := by
  have h1 := Nat.div_add_mod n C
  have h2 := Nat.mod_lt n hC
  subst hi
  refine ⟨by omega, fun j hj => ?_, fun j hj => ?_, h2, h1⟩
  · have : C * (j + 1) ≤ C * (n / C) := Nat.mul_le_mul_left C hj
    rw [Nat.mul_add] at this
    omega
  · have : C * (n / C + 1) ≤ C * j := Nat.mul_le_mul_left C hj
    rw [Nat.mul_add] at this
    omega

theorem upd_run (r : Nat) : upd (fun k => decide (k < r)) r true = fun k => decide (k < r + 1) := by
  funext k
  unfold upd
  by_cases h : k = r
  · subst h; simp
  · simp only [if_neg h]
    by_cases h2 : k < r
    · simp [h2]; omega
    · simp [h2]; omega

theorem run_slot {e0 : Pg} {c : Int} {m n : Nat} (h0 : 0 ≤ c) (h6 : c < 6) (he : Emp e0 c) (hn : n < m * (chunksOf c).toNat) :
    slot (runS e0 c m n) c = some (n / (chunksOf c).toNat) := by
  have hp := chunksOf_pos c h0 h6
  have hC : 0 < (chunksOf c).toNat := by omega
  have hCc : ((chunksOf c).toNat : Int) = chunksOf c := by omega
  generalize hCC : (chunksOf c).toNat = C at *
  obtain ⟨p1, p2, p3, p4, p5⟩ := run_parts hC (rfl : n / C = n / C)
  have hi : n / C < m := by rw [Nat.div_lt_iff_lt_mul hC]; exact hn
  have hl := runS_len e0 c m n
  have g : ∀ j (hj : j < (runS e0 c m n).length), (runS e0 c m n)[j] = pgRun e0 c (min C (n - C * j)) := fun j hj => by rw [runS_get, hCC]
  have full : ∀ j (hj : j < n / C), (runS e0 c m n)[j]'(by omega) = ⟨c, fun k => decide (k < C), C⟩ := fun j hj => by rw [g j (by omega), p2 j hj, pgRun_pos e0 c hC]
  have emp : ∀ j (hj : j < m), n / C < j → (runS e0 c m n)[j]'(by omega) = e0 := fun j hj h => by rw [g j (by omega), p3 j h]; rfl
  by_cases hr : 0 < n % C
  · unfold slot
    rw [find_some (k := n / C) (by omega) ?_ ?_]
    · rfl
    · rw [g _ (by omega), p1, pgRun_pos e0 c hr]
      simp only [fits1, beq_self_eq_true, Bool.true_and, decide_eq_true_eq]
      omega
    · intro j hj
      rw [full j hj]
      simp only [fits1, beq_self_eq_true, Bool.true_and, decide_eq_false_iff_not]
      omega
  · have hz : n % C = 0 := by omega
    have hat : (runS e0 c m n)[n / C]'(by omega) = e0 := by rw [g _ (by omega), p1, hz]; rfl
    have h1 : ∀ j (hj : j < (runS e0 c m n).length), fits1 c (runS e0 c m n)[j] = false := by
      intro j hj
      by_cases hlt : j < n / C
      · rw [full j hlt]
        simp only [fits1, beq_self_eq_true, Bool.true_and, decide_eq_false_iff_not]
        omega
      · have : (runS e0 c m n)[j] = e0 := by
          by_cases e : j = n / C
          · subst e; exact hat
          · exact emp j (by omega) (by omega)
        rw [this]
        simp [fits1, he.cls]
    by_cases hm : e0.cls = -1
    · refine slot2 (by omega) h1 ?_ ?_
      · rw [hat]; simp [fits2, hm]
      · intro j hj
        rw [full j hj]
        simp only [fits2, beq_eq_false_iff_ne]
        omega
    · refine slot3 (by omega) h1 ?_ ?_ ?_
      · intro j hj
        by_cases hlt : j < n / C
        · rw [full j hlt]; simp only [fits2, beq_eq_false_iff_ne]; omega
        · have : (runS e0 c m n)[j] = e0 := by
            by_cases e : j = n / C
            · subst e; exact hat
            · exact emp j (by omega) (by omega)
          rw [this]; simp [fits2, hm]
      · rw [hat]; simp [fits3, he.us]
      · intro j hj
        rw [full j hj]; simp only [fits3, beq_eq_false_iff_ne]; omega

theorem freeIn_run {r : Nat} (h : r < 64) : freeIn (fun k => decide (k < r)) = r := freeIn_of _ r h (by simp) (fun j hj => by simp [hj])

/-- The page of the next chunk, as it is. -/
theorem run_page {e0 : Pg} {c : Int} {m n : Nat} (h0 : 0 ≤ c) (h6 : c < 6) (he : Emp e0 c) (hn : n < m * (chunksOf c).toNat) :
    (runS e0 c m n).getD (n / (chunksOf c).toNat) Pg.new = ⟨((runS e0 c m n).getD (n / (chunksOf c).toNat) Pg.new).cls, fun k => decide (k < n % (chunksOf c).toNat), (n % (chunksOf c).toNat : Nat)⟩ := by
  have hp := chunksOf_pos c h0 h6
  have hC : 0 < (chunksOf c).toNat := by omega
  generalize hCC : (chunksOf c).toNat = C at *
  obtain ⟨p1, p2, p3, p4, p5⟩ := run_parts hC (rfl : n / C = n / C)
  have hi : n / C < m := by rw [Nat.div_lt_iff_lt_mul hC]; exact hn
  have hl := runS_len e0 c m n
  rw [getD_of (by omega), runS_get, hCC, p1]
  by_cases hr : 0 < n % C
  · rw [pgRun_pos e0 c hr]
  · have hz : n % C = 0 := by omega
    rw [hz, pgRun_zero]
    cases e0
    have h1 := he.us
    have h2 := he.tk
    simp only at h1 h2
    simp [h1, h2]

theorem run_take {e0 : Pg} {c : Int} {m n : Nat} (h0 : 0 ≤ c) (h6 : c < 6) (he : Emp e0 c) (hn : n < m * (chunksOf c).toNat) :
    takeS (runS e0 c m n) c = runS e0 c m (n + 1) ∧ takeN (runS e0 c m n) c = 64 * ((n / (chunksOf c).toNat : Nat) : Int) + (n % (chunksOf c).toNat : Nat) ∧ takeE (runS e0 c m n) c = 0 := by
  have hp := chunksOf_pos c h0 h6
  have hs := run_slot h0 h6 he hn
  obtain ⟨t1, t2, t3⟩ := take_slot (by simp [inCls, h0, h6]) hs
  have hpg := run_page h0 h6 he hn
  have hC : 0 < (chunksOf c).toNat := by omega
  have hlt := Nat.mod_lt n hC
  have htk := congrArg Pg.tk hpg
  have hus := congrArg Pg.us hpg
  simp only at htk hus
  rw [htk, freeIn_run (by omega)] at t2
  rw [htk, freeIn_run (by omega), hus, upd_run] at t1
  refine ⟨?_, t2, t3⟩
  rw [t1]
  generalize hCC : (chunksOf c).toNat = C at *
  obtain ⟨p1, p2, p3, p4, p5⟩ := run_parts hC (rfl : n / C = n / C)
  have hi : n / C < m := by rw [Nat.div_lt_iff_lt_mul hC]; exact hn
  apply List.ext_getElem
  · simp [runS_len]
  · intro j hj hj'
    rw [List.length_set, runS_len] at hj
    rw [List.getElem_set, runS_get, hCC, runS_get, hCC]
    split
    · rename_i e
      subst e
      have : min C (n + 1 - C * (n / C)) = n % C + 1 := by omega
      rw [this, pgRun_pos e0 c (by omega)]
      simp
    · rename_i e
      by_cases hlt2 : j < n / C
      · have : C * (j + 1) ≤ C * (n / C) := Nat.mul_le_mul_left C hlt2
        rw [Nat.mul_add] at this
        have e1 : min C (n - C * j) = C := by omega
        have e2 : min C (n + 1 - C * j) = C := by omega
        rw [e1, e2]
      · have : C * (n / C + 1) ≤ C * j := Nat.mul_le_mul_left C (by omega)
        rw [Nat.mul_add] at this
        have e1 : min C (n - C * j) = 0 := by omega
        have e2 : min C (n + 1 - C * j) = 0 := by omega
        rw [e1, e2]

theorem run_full {e0 : Pg} {c c' : Int} {m n : Nat} (h0 : 0 ≤ c) (h6 : c < 6) (h0' : 0 ≤ c') (h6' : c' < 6) (hn : m * (chunksOf c).toNat ≤ n) :
    takeS (runS e0 c m n) c' = runS e0 c m n ∧ takeN (runS e0 c m n) c' = 0 ∧ takeE (runS e0 c m n) c' = 7 := by
  refine take_full (by simp [inCls, h0', h6']) ?_
  have hp := chunksOf_pos c h0 h6
  have hp' := chunksOf_pos c' h0' h6'
  have full : ∀ j (hj : j < (runS e0 c m n).length), (runS e0 c m n)[j] = ⟨c, fun k => decide (k < (chunksOf c).toNat), (chunksOf c).toNat⟩ := fun j hj => by
    have hl := runS_len e0 c m n
    rw [runS_get]
    have h1 : (chunksOf c).toNat * (j + 1) ≤ (chunksOf c).toNat * m := Nat.mul_le_mul_left _ (by omega)
    rw [Nat.mul_comm _ m, Nat.mul_add] at h1
    have : min (chunksOf c).toNat (n - (chunksOf c).toNat * j) = (chunksOf c).toNat := by omega
    rw [this, pgRun_pos e0 c (by omega)]
  refine slot0 (fun j hj => ?_) (fun j hj => ?_) (fun j hj => ?_)
  · rw [full j hj]
    simp only [fits1, Bool.and_eq_false_imp, beq_iff_eq, decide_eq_false_iff_not]
    rintro rfl
    omega
  · rw [full j hj]; simp only [fits2, beq_eq_false_iff_ne]; omega
  · rw [full j hj]; simp only [fits3, beq_eq_false_iff_ne]; omega

theorem emp_new (c : Int) (h0 : 0 ≤ c) : Emp Pg.new c := ⟨rfl, rfl, by show (-1 : Int) ≠ c; omega⟩
theorem runS_new (c : Int) (m : Nat) : List.replicate m Pg.new = runS Pg.new c m 0 := by
  apply List.ext_getElem
  · simp [runS_len]
  · intro i h1 h2
    rw [runS_get]
    simp [pgRun]

/-- The number of the chunk that the j-th take gives. -/
def chunkNo (c : Int) (j : Nat) : Int := 64 * ((j / (chunksOf c).toNat : Nat) : Int) + (j % (chunksOf c).toNat : Nat)
def chunkRow (c : Int) (t : Nat) : List Value := (List.range t).map fun j => .int .i64 (chunkNo c j)
theorem chunkRow_len (c : Int) (t : Nat) : (chunkRow c t).length = t := by simp [chunkRow]
theorem chunkRow_succ (c : Int) (t : Nat) : chunkRow c t ++ [.int .i64 (chunkNo c t)] = chunkRow c (t + 1) := by simp [chunkRow, List.range_succ]
theorem chunkRow_get (c : Int) (t j : Nat) (h : j < t) : (chunkRow c t)[j]? = some (.int .i64 (chunkNo c j)) := by simp [chunkRow, h]

theorem chunkNo_parts {c : Int} {j : Nat} (h0 : 0 ≤ c) (h6 : c < 6) : 0 ≤ chunkNo c j ∧ (chunkNo c j / 64).toNat = j / (chunksOf c).toNat ∧ (chunkNo c j % 64).toNat = j % (chunksOf c).toNat ∧ chunkNo c j / 64 = (j / (chunksOf c).toNat : Nat) := by
  have hp := chunksOf_pos c h0 h6
  have hC : 0 < (chunksOf c).toNat := by omega
  have h1 := Nat.mod_lt j hC
  unfold chunkNo
  generalize j / (chunksOf c).toNat = q at *
  generalize j % (chunksOf c).toNat = r at *
  omega
theorem chunkNo_bd {c : Int} {j m : Nat} (h0 : 0 ≤ c) (h6 : c < 6) (hm : m ≤ 1024) (hj : j < m * (chunksOf c).toNat) : chunkNo c j ≤ 65536 := by
  have hp := chunksOf_pos c h0 h6
  have hC : 0 < (chunksOf c).toNat := by omega
  have h1 := Nat.mod_lt j hC
  have : j / (chunksOf c).toNat < m := by rw [Nat.div_lt_iff_lt_mul hC]; exact hj
  unfold chunkNo
  generalize j / (chunksOf c).toNat = q at *
  generalize j % (chunksOf c).toNat = r at *
  omega

theorem run_taken {c : Int} {m t j : Nat} (h0 : 0 ≤ c) (h6 : c < 6) (ht : t ≤ m * (chunksOf c).toNat) (hj : j < t) :
    isTaken (runS Pg.new c m t) (chunkNo c j) = true ∧
    (let S1 := freeS (runS Pg.new c m t) (chunkNo c j); isTaken S1 (chunkNo c j) = false ∧ takeN S1 c = chunkNo c j ∧ takeE S1 c = 0) := by
  have hp := chunksOf_pos c h0 h6
  obtain ⟨q1, q2, q3, q4⟩ := chunkNo_parts (j := j) h0 h6
  have hC : 0 < (chunksOf c).toNat := by omega
  have hCc : ((chunksOf c).toNat : Int) = chunksOf c := by omega
  obtain ⟨p1, p2, p3, p4, p5⟩ := run_parts hC (rfl : j / (chunksOf c).toNat = j / (chunksOf c).toNat)
  have hi : j / (chunksOf c).toNat < m := by rw [Nat.div_lt_iff_lt_mul hC]; omega
  have hl := runS_len Pg.new c m t
  have hb := Nat.mul_le_mul_left (chunksOf c).toNat hi
  rw [Nat.mul_comm _ m, Nat.mul_succ] at hb
  generalize hr : min (chunksOf c).toNat (t - (chunksOf c).toNat * (j / (chunksOf c).toNat)) = r at *
  have hjr : j % (chunksOf c).toNat < r := by omega
  have hrC : r ≤ (chunksOf c).toNat := by omega
  have hpg : (runS Pg.new c m t)[j / (chunksOf c).toNat]'(by omega) = ⟨c, fun k => decide (k < r), r⟩ := by rw [runS_get, hr, pgRun_pos _ _ (by omega)]
  have hT : isTaken (runS Pg.new c m t) (chunkNo c j) = true := by
    unfold isTaken
    rw [q2, q3, q4, getD_of (by omega), hpg, hl]
    simp only [Bool.and_eq_true, decide_eq_true_eq]
    exact ⟨⟨q1, by omega⟩, hjr⟩
  refine ⟨hT, ?_⟩
  have hS1 : freeS (runS Pg.new c m t) (chunkNo c j) = (runS Pg.new c m t).set (j / (chunksOf c).toNat) ⟨c, upd (fun k => decide (k < r)) (j % (chunksOf c).toNat) false, (r : Int) - 1⟩ := by
    unfold freeS
    rw [if_pos hT, q2, q3, getD_of (by omega), hpg]
  intro S1
  have hS1' : S1 = _ := hS1
  rw [hS1']
  have hlen : ((runS Pg.new c m t).set (j / (chunksOf c).toNat) ⟨c, upd (fun k => decide (k < r)) (j % (chunksOf c).toNat) false, (r : Int) - 1⟩).length = m := by rw [List.length_set, hl]
  have hslot : slot ((runS Pg.new c m t).set (j / (chunksOf c).toNat) ⟨c, upd (fun k => decide (k < r)) (j % (chunksOf c).toNat) false, (r : Int) - 1⟩) c = some (j / (chunksOf c).toNat) := by
    unfold slot
    rw [find_some (k := j / (chunksOf c).toNat) (by omega) ?_ ?_]
    · rfl
    · rw [List.getElem_set_self]
      simp only [fits1, beq_self_eq_true, Bool.true_and, decide_eq_true_eq]
      omega
    · intro i hij
      rw [List.getElem_set_ne (by omega), runS_get]
      have hm1 : (chunksOf c).toNat * (i + 1) ≤ (chunksOf c).toNat * (j / (chunksOf c).toNat) := Nat.mul_le_mul_left _ hij
      rw [Nat.mul_add] at hm1
      have : min (chunksOf c).toNat (t - (chunksOf c).toNat * i) = (chunksOf c).toNat := by omega
      rw [this, pgRun_pos _ _ hC]
      simp only [fits1, beq_self_eq_true, Bool.true_and, decide_eq_false_iff_not]
      omega
  obtain ⟨_, t2, t3⟩ := take_slot (by simp [inCls, h0, h6]) hslot
  have hget : ((runS Pg.new c m t).set (j / (chunksOf c).toNat) ⟨c, upd (fun k => decide (k < r)) (j % (chunksOf c).toNat) false, (r : Int) - 1⟩).getD (j / (chunksOf c).toNat) Pg.new = ⟨c, upd (fun k => decide (k < r)) (j % (chunksOf c).toNat) false, (r : Int) - 1⟩ := by
    rw [getD_of (by omega), List.getElem_set_self]
  refine ⟨?_, ?_, t3⟩
  · unfold isTaken
    rw [q2, q3, hget]
    simp [upd]
  · rw [t2, hget]
    have hf : freeIn (upd (fun k => decide (k < r)) (j % (chunksOf c).toNat) false) = j % (chunksOf c).toNat := by
      refine freeIn_of _ _ (by omega) (by simp [upd]) fun i hi => ?_
      unfold upd
      rw [if_neg (by omega)]
      simp
      omega
    rw [hf]
    rfl

/-- m pages of class c, all taken, of which the first f chunks were given back. -/
def backS (c : Int) (m f : Nat) : List Pg := (List.range m).map fun i => ⟨c, fun k => decide (k < (chunksOf c).toNat) && decide (f ≤ (chunksOf c).toNat * i + k), ((chunksOf c).toNat - min (chunksOf c).toNat (f - (chunksOf c).toNat * i) : Nat)⟩
theorem backS_len (c : Int) (m f : Nat) : (backS c m f).length = m := by simp [backS]
theorem backS_get (c : Int) (m f i : Nat) (h : i < (backS c m f).length) : (backS c m f)[i] = ⟨c, fun k => decide (k < (chunksOf c).toNat) && decide (f ≤ (chunksOf c).toNat * i + k), ((chunksOf c).toNat - min (chunksOf c).toNat (f - (chunksOf c).toNat * i) : Nat)⟩ := by simp [backS]

theorem back_begin {c : Int} {m : Nat} (h0 : 0 ≤ c) (h6 : c < 6) : runS Pg.new c m (m * (chunksOf c).toNat) = backS c m 0 := by
  have hp := chunksOf_pos c h0 h6
  have hC : 0 < (chunksOf c).toNat := by omega
  apply List.ext_getElem
  · simp [runS_len, backS_len]
  · intro i h1 h2
    rw [runS_len] at h1
    rw [runS_get, backS_get]
    have hb : (chunksOf c).toNat * (i + 1) ≤ (chunksOf c).toNat * m := Nat.mul_le_mul_left _ h1
    rw [Nat.mul_comm _ m, Nat.mul_add] at hb
    have e : min (chunksOf c).toNat (m * (chunksOf c).toNat - (chunksOf c).toNat * i) = (chunksOf c).toNat := by omega
    rw [e, pgRun_pos _ _ hC]
    simp

theorem back_end {c : Int} {m : Nat} (h0 : 0 ≤ c) (h6 : c < 6) (b : Int) : backS c m (m * (chunksOf c).toNat) = runS ⟨c, fun _ => false, 0⟩ b m 0 := by
  have hp := chunksOf_pos c h0 h6
  have hC : 0 < (chunksOf c).toNat := by omega
  apply List.ext_getElem
  · simp [runS_len, backS_len]
  · intro i h1 h2
    rw [backS_len] at h1
    rw [runS_get, backS_get]
    have hb : (chunksOf c).toNat * (i + 1) ≤ (chunksOf c).toNat * m := Nat.mul_le_mul_left _ h1
    rw [Nat.mul_comm _ m, Nat.mul_add] at hb
    have e : min (chunksOf c).toNat (m * (chunksOf c).toNat - (chunksOf c).toNat * i) = (chunksOf c).toNat := by omega
    have e2 : min (chunksOf b).toNat (0 - (chunksOf b).toNat * i) = 0 := by omega
    rw [e, e2, pgRun_zero]
    congr 1
    · funext k
      rw [Bool.and_eq_false_imp]
      intro hk
      have hk' : k < (chunksOf c).toNat := by simpa using hk
      simp only [decide_eq_false_iff_not]
      omega
    · simp

theorem back_free {c : Int} {m f : Nat} (h0 : 0 ≤ c) (h6 : c < 6) (hf : f < m * (chunksOf c).toNat) :
    isTaken (backS c m f) (chunkNo c f) = true ∧ freeS (backS c m f) (chunkNo c f) = backS c m (f + 1) := by
  have hp := chunksOf_pos c h0 h6
  obtain ⟨q1, q2, q3, q4⟩ := chunkNo_parts (j := f) h0 h6
  have hC : 0 < (chunksOf c).toNat := by omega
  obtain ⟨p1, p2, p3, p4, p5⟩ := run_parts hC (rfl : f / (chunksOf c).toNat = f / (chunksOf c).toNat)
  have hi : f / (chunksOf c).toNat < m := by rw [Nat.div_lt_iff_lt_mul hC]; omega
  have hl := backS_len c m f
  generalize hq : f / (chunksOf c).toNat = q at *
  generalize hr : f % (chunksOf c).toNat = r at *
  have hpg : (backS c m f)[q]'(by omega) = ⟨c, fun k => decide (k < (chunksOf c).toNat) && decide (f ≤ (chunksOf c).toNat * q + k), ((chunksOf c).toNat - r : Nat)⟩ := by rw [backS_get, p1]
  have hT : isTaken (backS c m f) (chunkNo c f) = true := by
    unfold isTaken
    rw [q2, q3, q4, getD_of (by omega), hpg, hl]
    simp only [Bool.and_eq_true, decide_eq_true_eq]
    exact ⟨⟨q1, by omega⟩, p4, by omega⟩
  refine ⟨hT, ?_⟩
  unfold freeS
  rw [if_pos hT, q2, q3, getD_of (by omega), hpg]
  apply List.ext_getElem
  · simp [backS_len]
  · intro j hj hj'
    rw [List.length_set, backS_len] at hj
    rw [List.getElem_set, backS_get, backS_get]
    split
    · rename_i e
      subst e
      have e1 : min (chunksOf c).toNat (f + 1 - (chunksOf c).toNat * q) = r + 1 := by omega
      rw [e1]
      congr 1
      · funext k
        unfold upd
        by_cases hk : k = r
        · rw [if_pos hk]
          symm
          rw [Bool.and_eq_false_imp]
          intro _
          simp only [decide_eq_false_iff_not]
          omega
        · rw [if_neg hk]
          show (decide (k < (chunksOf c).toNat) && decide (f ≤ (chunksOf c).toNat * q + k)) = _
          congr 1
          rw [decide_eq_decide]
          omega
      · show (((chunksOf c).toNat - r : Nat) : Int) - 1 = _
        omega
    · rename_i e
      congr 1
      · funext k
        by_cases hk : k < (chunksOf c).toNat
        · congr 1
          rw [decide_eq_decide]
          by_cases hlt : j < q
          · have : (chunksOf c).toNat * (j + 1) ≤ (chunksOf c).toNat * q := Nat.mul_le_mul_left _ hlt
            rw [Nat.mul_add] at this
            omega
          · have : (chunksOf c).toNat * (q + 1) ≤ (chunksOf c).toNat * j := Nat.mul_le_mul_left _ (by omega)
            rw [Nat.mul_add] at this
            omega
        · rw [decide_eq_false hk]; rfl
      · by_cases hlt : j < q
        · have : (chunksOf c).toNat * (j + 1) ≤ (chunksOf c).toNat * q := Nat.mul_le_mul_left _ hlt
          rw [Nat.mul_add] at this
          have e1 : min (chunksOf c).toNat (f - (chunksOf c).toNat * j) = (chunksOf c).toNat := by omega
          have e2 : min (chunksOf c).toNat (f + 1 - (chunksOf c).toNat * j) = (chunksOf c).toNat := by omega
          rw [e1, e2]
        · have : (chunksOf c).toNat * (q + 1) ≤ (chunksOf c).toNat * j := Nat.mul_le_mul_left _ (by omega)
          rw [Nat.mul_add] at this
          have e1 : min (chunksOf c).toNat (f - (chunksOf c).toNat * j) = 0 := by omega
          have e2 : min (chunksOf c).toNat (f + 1 - (chunksOf c).toNat * j) = 0 := by omega
          rw [e1, e2]

theorem run_pages {e0 : Pg} {c : Int} {m n : Nat} (h0 : 0 ≤ c) (h6 : c < 6) (hn : m * (chunksOf c).toNat ≤ n) (d : Int) (hd : d ≠ -1) : (runS e0 c m n).countP (pagesF d) = if d = c then m else 0 := by
  have hp := chunksOf_pos c h0 h6
  have hC : 0 < (chunksOf c).toNat := by omega
  have full : ∀ q, q ∈ runS e0 c m n → q.cls = c := by
    intro q hq
    obtain ⟨i, hi, rfl⟩ := List.mem_iff_getElem.1 hq
    rw [runS_len] at hi
    rw [runS_get]
    have hb : (chunksOf c).toNat * (i + 1) ≤ (chunksOf c).toNat * m := Nat.mul_le_mul_left _ hi
    rw [Nat.mul_comm _ m, Nat.mul_add] at hb
    have e : min (chunksOf c).toNat (n - (chunksOf c).toNat * i) = (chunksOf c).toNat := by omega
    rw [e, pgRun_pos _ _ hC]
  split
  · rename_i e
    subst e
    rw [List.countP_eq_length.2 (fun q hq => by simp [pagesF, full q hq, hd]), runS_len]
  · rename_i e
    rw [List.countP_eq_zero]
    intro q hq
    simp [pagesF, full q hq]
    intro h
    exact absurd h.symm e

end Go.Proofs.Ytamcnieneelmmaa
