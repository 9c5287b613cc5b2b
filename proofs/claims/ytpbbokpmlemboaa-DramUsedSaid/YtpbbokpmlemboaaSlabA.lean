/-
  The slab's pages in memory, and contracts of Chunk, chunks, first.
-/
import Derived.Test.YtpbbokpmlemboaaBase
namespace Go.Proofs.Ytpbbokpmlemboaa.Sl
open Go.RowKit

def chunkOf (c : Int) : Int := if 0 ≤ c ∧ c < 6 then 64 * 2 ^ c.toNat else 0
def chunksOf (c : Int) : Int := if 0 ≤ c ∧ c < 6 then 64 / 2 ^ c.toNat else 0

theorem six (c : Int) (h0 : 0 ≤ c) (h6 : c < 6) : c = 0 ∨ c = 1 ∨ c = 2 ∨ c = 3 ∨ c = 4 ∨ c = 5 := by omega

theorem chunkOf_wrap (c : Int) (h0 : 0 ≤ c) (h6 : c < 6) : wrap64 (64 * 2 ^ c.toNat) = chunkOf c := by
  rcases six c h0 h6 with rfl | rfl | rfl | rfl | rfl | rfl <;> decide +kernel
theorem chunkOf_pos (c : Int) (h0 : 0 ≤ c) (h6 : c < 6) : 64 ≤ chunkOf c ∧ chunkOf c ≤ 2048 := by
  rcases six c h0 h6 with rfl | rfl | rfl | rfl | rfl | rfl <;> decide
theorem chunksOf_div (c : Int) (h0 : 0 ≤ c) (h6 : c < 6) : 4096 / chunkOf c = chunksOf c := by
  rcases six c h0 h6 with rfl | rfl | rfl | rfl | rfl | rfl <;> decide
theorem chunksOf_pos (c : Int) (h0 : 0 ≤ c) (h6 : c < 6) : 2 ≤ chunksOf c ∧ chunksOf c ≤ 64 := by
  rcases six c h0 h6 with rfl | rfl | rfl | rfl | rfl | rfl <;> decide

set_option maxHeartbeats 400000 in
theorem chunk_in (c : Int) (w : World) (h0 : 0 ≤ c) (h6 : c < 6) :
    Calls Try.prog 39 #[.int .i64 c] w fun e w' => e = .returned (.int .i64 (chunkOf c)) ∧ w = w' := by
  go_enter Try.func39, Try.ntmps39
  go_wp2_with fail
  go_ret
  exact ⟨ret_int (chunkOf_wrap c h0 h6), rfl⟩

set_option maxHeartbeats 400000 in
theorem chunk_out (c : Int) (w : World) (h : c < 0 ∨ 6 ≤ c) :
    Calls Try.prog 39 #[.int .i64 c] w fun e w' => e = .returned (.int .i64 0) ∧ w = w' := by
  rcases h with h | h
  · go_enter Try.func39, Try.ntmps39
    go_wp2_with fail
    go_ret
    exact ⟨rfl, rfl⟩
  · go_enter Try.func39, Try.ntmps39
    have h' : 0 ≤ c := by omega
    go_wp2_with fail
    go_ret
    exact ⟨rfl, rfl⟩

theorem chunk_any (c : Int) (w : World) :
    Calls Try.prog 39 #[.int .i64 c] w fun e w' => e = .returned (.int .i64 (chunkOf c)) ∧ w = w' := by
  by_cases h : 0 ≤ c ∧ c < 6
  · exact chunk_in c w h.1 h.2
  · have : chunkOf c = 0 := by unfold chunkOf; rw [if_neg h]
    rw [this]
    exact chunk_out c w (by omega)

set_option maxHeartbeats 400000 in
theorem chunks_in (c : Int) (w : World) (h0 : 0 ≤ c) (h6 : c < 6) :
    Calls Try.prog 40 #[.int .i64 c] w fun e w' => e = .returned (.int .i64 (chunksOf c)) ∧ w = w' := by
  have hp := chunkOf_pos c h0 h6
  go_enter Try.func40, Try.ntmps40
  go_wp2_with (go_at_call 39; refine (chunk_in _ _ h0 h6).mono ?_; rintro e w' ⟨rfl, rfl⟩)
  all_goals go_ret
  exact ⟨ret_int (chunksOf_div c h0 h6), rfl⟩

/-- A page: its class, which chunks are taken, how many. -/
structure Pg where
  cls : Int
  tk : Nat → Bool
  us : Int

/-- How many of the first n are taken. -/
def cnt (tk : Nat → Bool) : Nat → Nat
  | 0 => 0
  | n + 1 => cnt tk n + (if tk n then 1 else 0)

theorem cnt_le (tk : Nat → Bool) (n : Nat) : cnt tk n ≤ n := by
  induction n with
  | zero => exact Nat.le_refl _
  | succ n ih => unfold cnt; split <;> omega
theorem cnt_all (tk : Nat → Bool) (n : Nat) (h : ∀ k, k < n → tk k = true) : cnt tk n = n := by
  induction n with
  | zero => rfl
  | succ n ih => unfold cnt; rw [ih fun k hk => h k (by omega), if_pos (h n (by omega))]
theorem cnt_none (tk : Nat → Bool) (n : Nat) (h : cnt tk n = 0) : ∀ k, k < n → tk k = false := by
  induction n with
  | zero => intro k hk; omega
  | succ n ih =>
    unfold cnt at h
    intro k hk
    by_cases hn : tk n = true
    · rw [if_pos hn] at h; omega
    · rw [if_neg hn] at h
      by_cases hkn : k = n
      · rw [hkn]; simpa using hn
      · exact ih (by omega) k (by omega)
theorem least_of (p : Nat → Bool) (n : Nat) (h : ∃ k, k < n ∧ p k = false) : ∃ k, k < n ∧ p k = false ∧ ∀ j, j < k → p j = true := by
  induction n with
  | zero => obtain ⟨k, hk, _⟩ := h; omega
  | succ n ih =>
    by_cases h' : ∃ k, k < n ∧ p k = false
    · obtain ⟨k, hk, h1, h2⟩ := ih h'
      exact ⟨k, by omega, h1, h2⟩
    · obtain ⟨k, hk, h1⟩ := h
      have hkn : k = n := by
        by_cases e : k = n
        · exact e
        · exact absurd ⟨k, by omega, h1⟩ h'
      subst hkn
      refine ⟨k, hk, h1, fun j hj => ?_⟩
      by_cases e : p j = true
      · exact e
      · exact absurd ⟨j, hj, by simpa using e⟩ h'
theorem cnt_free (tk : Nat → Bool) (n : Nat) (h : cnt tk n < n) : ∃ k, k < n ∧ tk k = false ∧ ∀ j, j < k → tk j = true := by
  refine least_of tk n ?_
  by_cases h' : ∃ k, k < n ∧ tk k = false
  · exact h'
  · have := cnt_all tk n fun k hk => by
      by_cases e : tk k = true
      · exact e
      · exact absurd ⟨k, hk, by simpa using e⟩ h'
    omega
/-- One more, one less. -/
def upd (tk : Nat → Bool) (k : Nat) (b : Bool) : Nat → Bool := fun j => if j = k then b else tk j
theorem cnt_upd_out (tk : Nat → Bool) (k n : Nat) (b : Bool) (h : n ≤ k) : cnt (upd tk k b) n = cnt tk n := by
  induction n with
  | zero => rfl
  | succ n ih =>
    unfold cnt
    rw [ih (by omega)]
    have : upd tk k b n = tk n := by unfold upd; rw [if_neg (by omega)]
    rw [this]
theorem cnt_upd (tk : Nat → Bool) (k n : Nat) (b : Bool) (h : k < n) : cnt (upd tk k b) n + (if tk k then 1 else 0) = cnt tk n + (if b then 1 else 0) := by
  induction n with
  | zero => omega
  | succ n ih =>
    unfold cnt
    by_cases e : k = n
    · subst e
      rw [cnt_upd_out tk k k b (Nat.le_refl _)]
      have : upd tk k b k = b := by unfold upd; rw [if_pos rfl]
      rw [this]; omega
    · have := ih (by omega)
      have h2 : upd tk k b n = tk n := by unfold upd; rw [if_neg (by omega)]
      rw [h2]; omega

/-- A page as it may be: of no class and empty; or of a class, its count true, nothing taken past its chunks. -/
def Pg.ok (p : Pg) : Prop :=
  (p.cls = -1 ∧ p.us = 0 ∧ ∀ k, p.tk k = false) ∨
  (0 ≤ p.cls ∧ p.cls < 6 ∧ p.us = cnt p.tk (chunksOf p.cls).toNat ∧ ∀ k, (chunksOf p.cls).toNat ≤ k → p.tk k = false)

/-- The page's cells, in a row of cells, from o on. -/
structure PgIn (cur : Array Value) (o : Nat) (p : Pg) : Prop where
  cls : cur[o]? = some (.int .i64 p.cls)
  tk : ∀ k, k < 64 → cur[o + 1 + k]? = some (.bool (p.tk k))
  us : cur[o + 65]? = some (.int .i64 p.us)

/-- A slab behind the pointer to block p: its pages lie in block b. -/
structure SlabRaw (w : World) (p b : Nat) (S : List Pg) : Prop where
  hd : w.heap[p]? = some (.cells #[.slice (some ⟨b, 0, none⟩) S.length S.length] 87 (0, 0))
  row : ∃ cur, w.heap[b]? = some (.cells cur 90 (0, 0)) ∧ cur.size = S.length * 66 ∧ ∀ i (h : i < S.length), PgIn cur (i * 66) S[i]
  len : S.length ≤ 1024

structure SlabAt (w : World) (p b : Nat) (S : List Pg) : Prop extends SlabRaw w p b S where
  ok : ∀ q, q ∈ S → q.ok

theorem SlabRaw.ne {w : World} {p b : Nat} {S : List Pg} (h : SlabRaw w p b S) : p ≠ b := by
  obtain ⟨cur, h1, _⟩ := h.row
  intro e
  subst e
  have := h.hd
  rw [h1] at this
  injection this with this
  injection this with _ this
  cases this

theorem SlabRaw.keep {w w' : World} {p b : Nat} {S : List Pg} {F : Nat → Prop} (h : SlabRaw w p b S) (hf : Fr F w w') (hp : ¬ F p) (hb : ¬ F b) : SlabRaw w' p b S := by
  obtain ⟨cur, h1, h2⟩ := h.row
  exact ⟨hf.heap h.hd hp, ⟨cur, hf.heap h1 hb, h2⟩, h.len⟩

theorem SlabAt.keep {w w' : World} {p b : Nat} {S : List Pg} {F : Nat → Prop} (h : SlabAt w p b S) (hf : Fr F w w') (hp : ¬ F p) (hb : ¬ F b) : SlabAt w' p b S :=
  ⟨h.toSlabRaw.keep hf hp hb, h.ok⟩

theorem SlabRaw.set_ {w : World} {p b : Nat} {S : List Pg} (h : SlabRaw w p b S) {i r : Nat} (hi : i < S.length) (hr : r < 66) (q : Pg) (v : Value)
    (hq : ∀ (cur : Array Value), i * 66 + 66 ≤ cur.size → PgIn cur (i * 66) S[i] → PgIn (cur.setIfInBounds (i * 66 + r) v) (i * 66) q) :
    SlabRaw (w.setCell ⟨b, i * 66 + r, none⟩ v) p b (S.set i q) := by
  obtain ⟨cur, h1, h2, h3⟩ := h.row
  refine ⟨?_, ⟨cur.setIfInBounds (i * 66 + r) v, ?_, ?_, ?_⟩, ?_⟩
  · rw [Below.heap_setCell _ _ _ _ h.ne, List.length_set]
    exact h.hd
  · simp [World.setCell, Array.getElem?_modify, h1]
  · simp [h2]
  · intro j hj
    rw [List.length_set] at hj
    by_cases e : i = j
    · subst e
      simp only [List.getElem_set_self]
      exact hq cur (by rw [h2]; have := Nat.mul_le_mul_right 66 (Nat.succ_le_of_lt hi); omega) (h3 i hi)
    · rw [List.getElem_set_ne e]
      have h4 := h3 j hj
      have far : ∀ x, x < 66 → i * 66 + r ≠ j * 66 + x := by
        intro x hx he
        apply e
        omega
      refine ⟨?_, fun k hk => ?_, ?_⟩
      · rw [Array.getElem?_setIfInBounds_ne (by have := far 0 (by omega); omega)]; exact h4.cls
      · rw [Array.getElem?_setIfInBounds_ne (by have := far (1 + k) (by omega); omega)]; exact h4.tk k hk
      · rw [Array.getElem?_setIfInBounds_ne (by have := far 65 (by omega); omega)]; exact h4.us
  · rw [List.length_set]; exact h.len

theorem SlabRaw.set_cls {w : World} {p b : Nat} {S : List Pg} (h : SlabRaw w p b S) {i : Nat} (hi : i < S.length) (c : Int) :
    SlabRaw (w.setCell ⟨b, i * 66, none⟩ (.int .i64 c)) p b (S.set i ⟨c, S[i].tk, S[i].us⟩) := by
  refine h.set_ (r := 0) hi (by omega) _ _ fun cur hs hp => ⟨?_, fun k hk => ?_, ?_⟩
  · rw [Nat.add_zero, Array.getElem?_setIfInBounds_self_of_lt (by omega)]
  · rw [Array.getElem?_setIfInBounds_ne (by omega)]; exact hp.tk k hk
  · rw [Array.getElem?_setIfInBounds_ne (by omega)]; exact hp.us
theorem SlabRaw.set_us {w : World} {p b : Nat} {S : List Pg} (h : SlabRaw w p b S) {i : Nat} (hi : i < S.length) (c : Int) :
    SlabRaw (w.setCell ⟨b, i * 66 + 65, none⟩ (.int .i64 c)) p b (S.set i ⟨S[i].cls, S[i].tk, c⟩) := by
  refine h.set_ (r := 65) hi (by omega) _ _ fun cur hs hp => ⟨?_, fun k hk => ?_, ?_⟩
  · rw [Array.getElem?_setIfInBounds_ne (by omega)]; exact hp.cls
  · rw [Array.getElem?_setIfInBounds_ne (by omega)]; exact hp.tk k hk
  · rw [Array.getElem?_setIfInBounds_self_of_lt (by omega)]
theorem SlabRaw.set_tk {w : World} {p b : Nat} {S : List Pg} (h : SlabRaw w p b S) {i k : Nat} (hi : i < S.length) (hk : k < 64) (x : Bool) :
    SlabRaw (w.setCell ⟨b, i * 66 + 1 + k, none⟩ (.bool x)) p b (S.set i ⟨S[i].cls, upd S[i].tk k x, S[i].us⟩) := by
  rw [Nat.add_assoc]
  refine h.set_ (r := 1 + k) hi (by omega) _ _ fun cur hs hp => ⟨?_, fun j hj => ?_, ?_⟩
  · rw [Array.getElem?_setIfInBounds_ne (by omega)]; exact hp.cls
  · by_cases e : j = k
    · subst e
      have : upd S[i].tk j x j = x := by unfold upd; rw [if_pos rfl]
      show _ = some (Value.bool (upd S[i].tk j x j))
      rw [this, ← Nat.add_assoc, Array.getElem?_setIfInBounds_self_of_lt (by omega)]
    · have : upd S[i].tk k x j = S[i].tk j := by unfold upd; rw [if_neg e]
      show _ = some (Value.bool (upd S[i].tk k x j))
      rw [this, Array.getElem?_setIfInBounds_ne (by omega)]; exact hp.tk j hj
  · rw [Array.getElem?_setIfInBounds_ne (by omega)]; exact hp.us

theorem SlabAt.head {w : World} {p b : Nat} {S : List Pg} (h : SlabAt w p b S) : w.cell? ⟨p, 0, none⟩ = some (.slice (some ⟨b, 0, none⟩) S.length S.length) := cell_of_one h.hd

structure PgAt (w : World) (b o : Nat) (p : Pg) : Prop where
  cls : w.cell? ⟨b, o, none⟩ = some (.int .i64 p.cls)
  fcls : w.frozen? ⟨b, o, none⟩ = false
  tk : ∀ k, k < 64 → w.cell? ⟨b, o + 1 + k, none⟩ = some (.bool (p.tk k))
  ftk : ∀ k, k < 64 → w.frozen? ⟨b, o + 1 + k, none⟩ = false
  us : w.cell? ⟨b, o + 65, none⟩ = some (.int .i64 p.us)
  fus : w.frozen? ⟨b, o + 65, none⟩ = false

theorem SlabRaw.page {w : World} {p b : Nat} {S : List Pg} (h : SlabRaw w p b S) {i : Nat} (hi : i < S.length) : PgAt w b (i * 66) S[i] := by
  obtain ⟨cur, h1, _, h2⟩ := h.row
  have h3 := h2 i hi
  have hf : ∀ o, w.frozen? ⟨b, o, none⟩ = false := fun o => by simp [World.frozen?, h1]
  have hc : ∀ o, w.cell? ⟨b, o, none⟩ = cur[o]? := fun o => by simp [World.cell?, h1]
  exact ⟨by rw [hc]; exact h3.cls, hf _, fun k hk => by rw [hc]; exact h3.tk k hk, fun _ _ => hf _, by rw [hc]; exact h3.us, hf _⟩

theorem PgAt.drewN {w : World} {b o : Nat} {p : Pg} (h : PgAt w b o p) (n : Nat) : PgAt (w.drewN n) b o p := ⟨h.cls, h.fcls, h.tk, h.ftk, h.us, h.fus⟩

theorem ok_of_mem {S : List Pg} (h : ∀ q, q ∈ S → q.ok) {i : Nat} (hi : i < S.length) : (S[i]).ok := h _ (List.getElem_mem hi)

set_option maxHeartbeats 800000 in
/-- What first takes: the least free chunk. -/
theorem first_ok (b o : Nat) (p : Pg) (k0 : Nat) (w : World) (h0 : 0 ≤ p.cls) (h6 : p.cls < 6) (hu : 0 ≤ p.us ∧ p.us < 64)
    (hk : (k0 : Int) < chunksOf p.cls) (ht : p.tk k0 = false) (hl : ∀ k, k < k0 → p.tk k = true) (hp : PgAt w b o p) :
    Calls Try.prog 41 #[.pointer (some ⟨b, o, none⟩)] w fun e w' => e = .returned (.int .i64 k0) ∧
      w' = (w.setCell ⟨b, o + 1 + k0, none⟩ (.bool true)).setCell ⟨b, o + 65, none⟩ (.int .i64 (p.us + 1)) := by
  obtain ⟨c1, f1, ct, ft, c2, f2⟩ := hp
  have hcp := chunksOf_pos p.cls h0 h6
  have hk0 : k0 < 64 := by omega
  have hcs := cell?_setCell_some (w := w) (p := ⟨b, o + 1 + k0, none⟩) (x := .bool true) c2
  go_enter Try.func41, Try.ntmps41
  go_wp2_with (go_at_call 40; refine (chunks_in _ _ h0 h6).mono ?_; rintro e w' ⟨rfl, rfl⟩)
  go_loop [9, 10] (fun i _ => ∃ k : Nat, k ≤ k0 ∧ i = .int .i64 k) (fun i _ => k0 - (intOf i).toNat)
  case atStart => exact ⟨0, Nat.zero_le _, rfl⟩
  case round =>
    obtain ⟨k, hk, rfl⟩ := hrel
    by_cases hlt : k < k0
    · have ct' := ct k (by omega)
      have hh := hl k hlt
      go_wp2
      go_round
      case rel => exact ⟨k + 1, by omega, by go_num⟩
      case measure => simp [intOf]; omega
    · have : k = k0 := by omega
      subst this
      have ct' := ct k (by omega)
      have ctf := ft k (by omega)
      go_wp2
      go_ret
      exact ⟨rfl, rfl⟩

end Go.Proofs.Ytpbbokpmlemboaa.Sl
