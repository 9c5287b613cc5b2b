/-
  Contracts of the slab's Class; New at a count that may not be; Take at whatever class; awake.
-/
import Derived.Test.YtpbbokpmlemboaaSlabD
namespace Go.Proofs.Ytpbbokpmlemboaa.Sl
open Go.RowKit

def classOf (x : Int) : Int :=
  if 0 ≤ x then (if x ≤ 64 then 0 else if x ≤ 128 then 1 else if x ≤ 256 then 2 else if x ≤ 512 then 3 else if x ≤ 1024 then 4 else if x ≤ 2048 then 5 else -1) else -1

theorem chunkOf_lit : chunkOf 0 = 64 ∧ chunkOf 1 = 128 ∧ chunkOf 2 = 256 ∧ chunkOf 3 = 512 ∧ chunkOf 4 = 1024 ∧ chunkOf 5 = 2048 := by decide

theorem classOf_hit {x : Int} {k : Nat} (hk : k < 6) (h0 : 0 ≤ x) (hno : ∀ j : Nat, j < k → chunkOf j < x) (hx : x ≤ chunkOf k) : classOf x = k := by
  obtain ⟨c0, c1, c2, c3, c4, c5⟩ := chunkOf_lit
  unfold classOf
  rw [if_pos h0]
  match k, hk with
  | 0, _ => have hx' : x ≤ chunkOf 0 := hx; rw [if_pos (by omega)]; rfl
  | 1, _ => have hx' : x ≤ chunkOf 1 := hx; have a := hno 0 (by omega); have a' : chunkOf 0 < x := a; rw [if_neg (by omega), if_pos (by omega)]; rfl
  | 2, _ => have hx' : x ≤ chunkOf 2 := hx; have a' : chunkOf 1 < x := hno 1 (by omega); rw [if_neg (by omega), if_neg (by omega), if_pos (by omega)]; rfl
  | 3, _ => have hx' : x ≤ chunkOf 3 := hx; have a' : chunkOf 2 < x := hno 2 (by omega); rw [if_neg (by omega), if_neg (by omega), if_neg (by omega), if_pos (by omega)]; rfl
  | 4, _ => have hx' : x ≤ chunkOf 4 := hx; have a' : chunkOf 3 < x := hno 3 (by omega); rw [if_neg (by omega), if_neg (by omega), if_neg (by omega), if_neg (by omega), if_pos (by omega)]; rfl
  | 5, _ => have hx' : x ≤ chunkOf 5 := hx; have a' : chunkOf 4 < x := hno 4 (by omega); rw [if_neg (by omega), if_neg (by omega), if_neg (by omega), if_neg (by omega), if_neg (by omega), if_pos (by omega)]; rfl
theorem classOf_miss {x : Int} (hno : 0 ≤ x → ∀ j : Nat, j < 6 → chunkOf j < x) : classOf x = -1 := by
  obtain ⟨c0, c1, c2, c3, c4, c5⟩ := chunkOf_lit
  unfold classOf
  by_cases h0 : 0 ≤ x
  · have a : chunkOf 5 < x := hno h0 5 (by omega)
    rw [if_pos h0, if_neg (by omega), if_neg (by omega), if_neg (by omega), if_neg (by omega), if_neg (by omega), if_neg (by omega)]
  · rw [if_neg h0]

set_option maxHeartbeats 1600000 in
theorem class_ok (x : Int) (w : World) :
    Calls Try.prog 25 #[.int .i64 x] w fun e w' => e = .returned (.int .i64 (classOf x)) ∧ w = w' := by
  go_enter Try.func25, Try.ntmps25
  go_wp2_with fail
  go_loop [3, 4] (fun _ i => ∃ (k : Nat), k ≤ 6 ∧ i = .int .i64 k ∧ Hid (0 ≤ x → ∀ j : Nat, j < k → chunkOf j < x)) (fun _ i => 6 - (intOf i).toNat)
  case atStart => exact ⟨0, by omega, rfl, fun _ j hj => by omega⟩
  case round =>
    obtain ⟨k, hk, rfl, hno⟩ := hrel
    by_cases hlt : k < 6
    · by_cases h0 : 0 ≤ x
      · by_cases hx : x ≤ chunkOf k
        · have hend := Lib.hid (classOf_hit hlt h0 (hno.out h0) hx)
          go_wp2_with (go_at_call 39; refine (chunk_any _ _).mono ?_; rintro e w' ⟨rfl, rfl⟩)
          go_ret
          exact ⟨ret_int hend.out.symm, rfl⟩
        · have hno' : Hid (0 ≤ x → ∀ j : Nat, j < k + 1 → chunkOf j < x) := fun h j hj => by
            by_cases e : j = k
            · subst e; omega
            · exact hno.out h j (by omega)
          clear hno
          go_wp2_with (go_at_call 39; refine (chunk_any _ _).mono ?_; rintro e w' ⟨rfl, rfl⟩)
          go_round
          case rel => exact ⟨k + 1, by omega, by go_num, hno'⟩
          case measure => simp [intOf]; omega
      · have hno' : Hid (0 ≤ x → ∀ j : Nat, j < k + 1 → chunkOf j < x) := fun h => absurd h h0
        clear hno
        go_wp2_with (go_at_call 39; refine (chunk_any _ _).mono ?_; rintro e w' ⟨rfl, rfl⟩)
        go_round
        case rel => exact ⟨k + 1, by omega, by go_num, hno'⟩
        case measure => simp [intOf]; omega
    · have hend : classOf x = -1 := classOf_miss fun h j hj => hno.out h j (by omega)
      have hend' := Lib.hid hend
      clear hend
      go_wp2_with fail
      go_ret
      exact ⟨ret_int hend'.out.symm, rfl⟩

set_option maxHeartbeats 400000 in
theorem new_bad (w : World) (n : Int) (h : n < 1 ∨ 1024 < n) :
    Calls Try.prog 21 #[.int .i64 n] w fun e w' => e = .returned (.tuple #[.pointer none, .int .i64 1]) ∧ w = w' := by
  rcases h with h | h
  · go_enter Try.func21, Try.ntmps21
    go_wp2_with fail
    go_ret2
    exact ⟨rfl, rfl⟩
  · have h' : ¬ n < 1 := by omega
    go_enter Try.func21, Try.ntmps21
    go_wp2_with fail
    go_ret2
    exact ⟨rfl, rfl⟩

set_option maxHeartbeats 400000 in
theorem take_bad (w : World) (p : Option Addr) (c : Int) (h : c < 0 ∨ 6 ≤ c) :
    Calls Try.prog 27 #[.pointer p, .int .i64 c] w fun e w' => e = .returned (.tuple #[.int .i64 0, .int .i64 1]) ∧ w = w' := by
  go_enter Try.func27, Try.ntmps27
  go_wp2_with (go_at_call 39; refine (chunk_out _ _ h).mono ?_; rintro e w' ⟨rfl, rfl⟩)
  go_ret2
  exact ⟨rfl, rfl⟩

/-- Take, at whatever class. -/
theorem take_ok (w : World) (p b : Nat) (S : List Pg) (c : Int) (h : SlabAt w p b S) :
    Calls Try.prog 27 #[.pointer (some ⟨p, 0, none⟩), .int .i64 c] w (TakePost w p b S c) := by
  by_cases hc : 0 ≤ c ∧ c < 6
  · exact take_in w p b S c h hc.1 hc.2
  · have hi : inCls c = false := by simp [inCls]; omega
    refine (take_bad w _ c (by omega)).mono ?_
    rintro e w' ⟨rfl, rfl⟩
    refine ⟨?_, ?_, Fr.refl _ _⟩
    · unfold takeN takeE; rw [hi]; rfl
    · unfold takeS; rw [hi]; exact h

/-- Take, its results known. -/
theorem take_eq (w : World) (p b : Nat) (S : List Pg) (c n e : Int) (h : SlabAt w p b S) (hn : takeN S c = n) (he : takeE S c = e) :
    Calls Try.prog 27 #[.pointer (some ⟨p, 0, none⟩), .int .i64 c] w fun r w' => r = .returned (.tuple #[.int .i64 n, .int .i64 e]) ∧ Hid (SlabAt w' p b (takeS S c)) ∧ Hid (Fr (One b) w w') :=
  (take_ok w p b S c h).mono fun r w' ⟨h1, h2, h3⟩ => ⟨by rw [h1, hn, he], h2, h3⟩
theorem free_eq (w : World) (p b : Nat) (S : List Pg) (x e : Int) (hx63 : x ≤ 9223372036854775807) (h : SlabAt w p b S) (he : (if isTaken S x then 0 else 5) = e) :
    Calls Try.prog 60 #[.pointer (some ⟨p, 0, none⟩), .int .i64 x] w fun r w' => r = .returned (.int .i64 e) ∧ Hid (SlabAt w' p b (freeS S x)) ∧ Hid (Fr (One b) w w') :=
  (free_ok w p b S x hx63 h).mono fun r w' ⟨h1, h2, h3⟩ => ⟨by rw [h1, he], h2, h3⟩
theorem of_eq (w : World) (p b : Nat) (S : List Pg) (x e : Int) (hx63 : x ≤ 9223372036854775807) (h : SlabAt w p b S) (he : ofS S x = e) :
    Calls Try.prog 33 #[.pointer (some ⟨p, 0, none⟩), .int .i64 x] w fun r w' => r = .returned (.int .i64 e) ∧ w = w' :=
  (of_ok w p b S x hx63 h).mono fun r w' ⟨h1, h2⟩ => ⟨by rw [h1, he], h2⟩
theorem new_eq (w : World) (n : Nat) (h1 : 1 ≤ n) (h2 : n ≤ 1024) :
    Calls Try.prog 21 #[.int .i64 n] w fun e w' => ∃ p b, e = .returned (.tuple #[.pointer (some ⟨p, 0, none⟩), .int .i64 0]) ∧ Hid (SlabAt w' p b (List.replicate n Pg.new)) ∧ Hid (Fr Nob w w') ∧ w.heap.size ≤ p ∧ w.heap.size ≤ b ∧ p < w'.heap.size :=
  (new_ok w n h1 h2).mono fun e w' ⟨h1, h2, h3⟩ => ⟨_, _, h1, h2, h3, by omega, by omega, lt_of_block h2.hd⟩

theorem Fr.one_new {b : Nat} {w0 w w' : World} (h : Fr Nob w0 w) (h' : Fr (One b) w w') (hb : w0.heap.size ≤ b) : Fr Nob w0 w' :=
  h.trans h' fun i hi e => by cases e; omega
theorem Fr.nob_new {w0 w w' : World} (h : Fr Nob w0 w) (h' : Fr Nob w w') : Fr Nob w0 w' := h.trans' h'

end Go.Proofs.Ytpbbokpmlemboaa.Sl
