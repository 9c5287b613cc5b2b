/-
  The table in memory: contracts of slot and find.
-/
import Derived.Test.YtpbbokpmlemboaaTabB
import Derived.BigQuiet
import Derived.Deep.LoopGhost
namespace Go.Proofs.Ytpbbokpmlemboaa.Tb
open Go.RowKit

structure Tb where
  now : List (List En)
  old : List (List En)
  left : Nat
  n : Nat

def Tb.first (T : Tb) : Nat := T.old.length - T.left
def Tb.inOld (T : Tb) (k : ByteArray) : Prop := 0 < T.left ∧ T.first ≤ hashK k % T.old.length
instance (T : Tb) (k : ByteArray) : Decidable (T.inOld k) := inferInstanceAs (Decidable (_ ∧ _))
def oldV (go : Nat) (old : List (List En)) : Value := match old with
  | [] => .slice none 0 0
  | _ :: _ => .slice (some ⟨go, 0, none⟩) old.length old.length
theorem oldV_of {go : Nat} {old : List (List En)} (h : old ≠ []) : oldV go old = .slice (some ⟨go, 0, none⟩) old.length old.length := by
  cases old with
  | nil => exact absurd rfl h
  | cons c l => rfl

/-- At t lies a table. -/
structure TabAt (w : World) (W t gn go : Nat) (T : Tb) : Prop where
  hd : w.heap[t]? = some (.cells #[.slice (some ⟨gn, 0, none⟩) T.now.length T.now.length, oldV go T.old, .int .i64 T.left, .int .i64 T.n] 93 (0, 0))
  bd : Body w W gn go T.now T.old (T.now.map hookV) (T.old.map hookV)
  lo : W ≤ t

structure Tb.Fit (T : Tb) : Prop where
  pos : 0 < T.now.length
  le : T.left ≤ T.old.length
  big : T.now.length ≤ 131072
  olds : T.old.length ≤ 65536

def Tb.slotA (T : Tb) (gn go : Nat) (k : ByteArray) : Addr := if T.inOld k then ⟨go, hashK k % T.old.length, none⟩ else ⟨gn, hashK k % T.now.length, none⟩
def Tb.chain (T : Tb) (k : ByteArray) : List En := if T.inOld k then T.old.getD (hashK k % T.old.length) [] else T.now.getD (hashK k % T.now.length) []
def preE (k : ByteArray) (c : List En) : List En := c.takeWhile fun e => decide (e.key ≠ k)
def sufE (k : ByteArray) (c : List En) : List En := c.dropWhile fun e => decide (e.key ≠ k)
theorem pre_suf (k : ByteArray) (c : List En) : preE k c ++ sufE k c = c := List.takeWhile_append_dropWhile

theorem TabAt.cells {w : World} {W t gn go : Nat} {T : Tb} (s : TabAt w W t gn go T) :
    w.cell? ⟨t, 0, none⟩ = some (.slice (some ⟨gn, 0, none⟩) T.now.length T.now.length) ∧ w.cell? ⟨t, 1, none⟩ = some (oldV go T.old) ∧ w.cell? ⟨t, 2, none⟩ = some (.int .i64 T.left) ∧ w.cell? ⟨t, 3, none⟩ = some (.int .i64 T.n) ∧
      ∀ j, w.frozen? ⟨t, j, none⟩ = false := by
  have h := fun j => cell_of_row w t j _ _ (0, 0) s.hd
  exact ⟨h 0, h 1, h 2, h 3, fun j => frozen_of_row w t j _ _ s.hd⟩

set_option maxHeartbeats 4000000 in
set_option maxRecDepth 100000 in
theorem slot_eq {w : World} {W t gn go : Nat} {T : Tb} (s : TabAt w W t gn go T) (F : T.Fit) (k : ByteArray) (hs : k.size < 9223372036854775808) :
    Calls Try.prog 47 #[.pointer (some ⟨t, 0, none⟩), .string k] w fun e w' => e = .returned (.pointer (some (T.slotA gn go k))) ∧ ∃ m, w' = w.drewN m := by
  obtain ⟨c0, c1, c2, c3, c4⟩ := s.cells
  have hh := hashK_lt k
  have hp := F.pos
  have hb := F.big
  have hle := F.le
  have ho := F.olds
  have HA := Lib.hid (hash_eq (w := w) k hs)
  by_cases hin : T.inOld k
  · have hS : T.slotA gn go k = ⟨go, hashK k % T.old.length, none⟩ := if_pos hin
    obtain ⟨hl, hf⟩ : 0 < T.left ∧ T.old.length - T.left ≤ hashK k % T.old.length := hin
    have hop : 0 < T.old.length := by omega
    rw [oldV_of (by intro e; rw [e] at hop; exact absurd hop (Nat.lt_irrefl _))] at c1
    rw [hS]
    have hlt := Nat.mod_lt (hashK k) hop
    generalize T.old.length = no at *
    generalize T.left = lf at *
    generalize hashK k = h at *
    obtain ⟨r, hr⟩ : ∃ r, r = h % no := ⟨_, rfl⟩
    have hlt0 := hlt
    rw [← hr] at hf hlt ⊢
    have HR := Lib.hid hr
    clear hS s F hp hb hr
    go_enter Try.func47, Try.ntmps47
    go_wp2_with fail
    refine HA.out.mono ?_
    rintro e w' ⟨rfl, rfl⟩
    go_wp2_with fail
    rw [show ((h : Int) % (no : Int)) = (r : Int) by rw [HR.out]; rfl]
    have hc : (no : Int) - (lf : Int) ≤ (r : Int) := by omega
    go_quiet (fail)
    go_wp2_with fail
    go_ret
    exact ⟨rfl, _, rfl⟩
  · have hS : T.slotA gn go k = ⟨gn, hashK k % T.now.length, none⟩ := if_neg hin
    have hp' := Nat.mod_lt (hashK k) hp
    rw [hS]
    by_cases hl : 0 < T.left
    · have hf : hashK k % T.old.length < T.old.length - T.left := by
        have : ¬ (0 < T.left ∧ T.old.length - T.left ≤ hashK k % T.old.length) := hin
        omega
      have hop : 0 < T.old.length := by omega
      rw [oldV_of (by intro e; rw [e] at hop; exact absurd hop (Nat.lt_irrefl _))] at c1
      have hlt := Nat.mod_lt (hashK k) hop
      generalize T.old.length = no at *
      generalize T.now.length = nn at *
      generalize T.left = lf at *
      generalize hashK k = h at *
      clear hS s F hin
      go_enter Try.func47, Try.ntmps47
      go_wp2_with fail
      refine HA.out.mono ?_
      rintro e w' ⟨rfl, rfl⟩
      go_wp2_with fail
      have e : ((h : Int) % (no : Int)) = ((h % no : Nat) : Int) := rfl
      rw [e]
      generalize h % no = r at *
      clear e
      have hc : ¬ (no : Int) - (lf : Int) ≤ (r : Int) := by omega
      go_quiet (fail)
      go_wp2_with fail
      have hlt2 : (h : Int) % (nn : Int) < nn := by omega
      have hge2 : 0 ≤ (h : Int) % (nn : Int) := by omega
      go_quiet (fail)
      go_wp2_with fail
      go_ret
      exact ⟨rfl, _, World.drewN_drewN ..⟩
    · have hl0 : T.left = 0 := by omega
      rw [hl0] at c2
      generalize T.now.length = nn at *
      generalize hashK k = h at *
      clear hS s F hin hl hl0
      go_enter Try.func47, Try.ntmps47
      go_wp2_with fail
      refine HA.out.mono ?_
      rintro e w' ⟨rfl, rfl⟩
      go_wp2_with fail
      have hlt2 : (h : Int) % (nn : Int) < nn := by omega
      have hge2 : 0 ≤ (h : Int) % (nn : Int) := by omega
      go_quiet (fail)
      go_wp2_with fail
      go_ret
      exact ⟨rfl, _, rfl⟩

theorem preE_snoc {k : ByteArray} {pre : List En} {e : En} (hp : ∀ x ∈ pre, x.key ≠ k) (he : e.key ≠ k) : ∀ x ∈ pre ++ [e], x.key ≠ k := by
  intro x hx
  rcases List.mem_append.1 hx with hx | hx
  · exact hp x hx
  · rw [List.mem_singleton] at hx
    rw [hx]; exact he
theorem hookA_snoc (p : Addr) (pre : List En) (e : En) : hookA p (pre ++ [e]) = ⟨e.b, 2, none⟩ := by
  induction pre generalizing p with
  | nil => rfl
  | cons x r ih => exact ih _
theorem pre_of {k : ByteArray} {pre rest : List En} (hp : ∀ x ∈ pre, x.key ≠ k) (hr : rest = [] ∨ ∃ e r, rest = e :: r ∧ e.key = k) : preE k (pre ++ rest) = pre ∧ sufE k (pre ++ rest) = rest := by
  unfold preE sufE
  have h1 : ∀ x ∈ pre, (fun e : En => decide (e.key ≠ k)) x = true := fun x hx => decide_eq_true (hp x hx)
  have h2 : rest.takeWhile (fun e => decide (e.key ≠ k)) = [] ∧ rest.dropWhile (fun e => decide (e.key ≠ k)) = rest := by
    rcases hr with rfl | ⟨e, r, rfl, he⟩
    · exact ⟨rfl, rfl⟩
    · constructor
      · rw [List.takeWhile_cons, if_neg (by simp [he])]
      · rw [List.dropWhile_cons, if_neg (by simp [he])]
  constructor
  · rw [List.takeWhile_append_of_pos h1, h2.1, List.append_nil]
  · rw [List.dropWhile_append_of_pos h1, h2.2]

/-- Of a table: a key's chain hangs at its slot. -/
theorem TabAt.slot_cell {w : World} {W t gn go : Nat} {T : Tb} (s : TabAt w W t gn go T) (F : T.Fit) (k : ByteArray) :
    w.cell? (T.slotA gn go k) = some (hookV (T.chain k)) ∧ w.frozen? (T.slotA gn go k) = false ∧ ChAt w (T.chain k) := by
  unfold Tb.slotA Tb.chain
  by_cases hin : T.inOld k
  · rw [if_pos hin, if_pos hin]
    have hop : 0 < T.old.length := by have := F.le; have := hin.1; omega
    have hlt := Nat.mod_lt (hashK k) hop
    have hne : T.old ≠ [] := by intro e; rw [e] at hop; exact absurd hop (Nat.lt_irrefl _)
    have hg : T.old[hashK k % T.old.length]? = some (T.old.getD (hashK k % T.old.length) []) := by
      rw [List.getD_eq_getElem?_getD, List.getElem?_eq_getElem hlt]; rfl
    obtain ⟨h1, h2⟩ := row_at' (s.bd.od hne) (i := hashK k % T.old.length) (v := hookV (T.old.getD (hashK k % T.old.length) [])) (by rw [List.getElem?_map, hg]; rfl)
    exact ⟨h1, h2, s.bd.cho _ (List.mem_of_getElem? hg)⟩
  · rw [if_neg hin, if_neg hin]
    have hlt := Nat.mod_lt (hashK k) F.pos
    have hg : T.now[hashK k % T.now.length]? = some (T.now.getD (hashK k % T.now.length) []) := by
      rw [List.getD_eq_getElem?_getD, List.getElem?_eq_getElem hlt]; rfl
    obtain ⟨h1, h2⟩ := row_at' s.bd.nw (i := hashK k % T.now.length) (v := hookV (T.now.getD (hashK k % T.now.length) [])) (by rw [List.getElem?_map, hg]; rfl)
    exact ⟨h1, h2, s.bd.chn _ (List.mem_of_getElem? hg)⟩

set_option maxHeartbeats 4000000 in
set_option maxRecDepth 100000 in
theorem find_eq {w : World} {W t gn go : Nat} {T : Tb} (s : TabAt w W t gn go T) (F : T.Fit) (k : ByteArray) (hs : k.size < 9223372036854775808) :
    Calls Try.prog 46 #[.pointer (some ⟨t, 0, none⟩), .string k] w fun e w' => e = .returned (.pointer (some (hookA (T.slotA gn go k) (preE k (T.chain k))))) ∧ ∃ m, w' = w.drewN m := by
  obtain ⟨p1, p2, p3⟩ := s.slot_cell F k
  have hsl := slot_eq s F k hs
  have hps := pre_suf k (T.chain k)
  generalize T.slotA gn go k = A at *
  generalize T.chain k = c at *
  have HSL := Lib.hid hsl
  have P1 := Lib.hid p1
  have P2 := Lib.hid p2
  have P3 := Lib.hid p3
  clear hsl p1 p2 p3 hps F s
  go_enter Try.func46, Try.ntmps46
  go_wp2_with fail
  refine HSL.out.mono ?_
  rintro e w1 ⟨rfl, m, rfl⟩
  go_wp2_with fail
  go_loopg [5] c.length (fun n p wr => ∃ pre rest, Hid (c = pre ++ rest) ∧ Hid (∀ x ∈ pre, x.key ≠ k) ∧ p = .pointer (some (hookA A pre)) ∧ n = rest.length ∧ wr = w.drewN m)
  case atStart => exact ⟨[], c, Lib.hid rfl, Lib.hid (fun x hx => by cases hx), rfl, rfl, rfl⟩
  case round =>
    obtain ⟨pre, rest, hc, hk, rfl, rfl, rfl⟩ := hrel
    obtain ⟨q1, q2⟩ := hook_cell (p := A) (pre := pre) (rest := rest) (by rw [← hc.out]; exact P3.out) (by rw [← hc.out]; exact P1.out) P2.out
    cases rest with
    | nil =>
      have q1' : w.cell? (hookA A pre) = some (.pointer none) := q1
      have q3 : Hid (hookA A (preE k c) = hookA A pre) := by
        refine Lib.hid ?_
        rw [hc.out, (pre_of (rest := []) hk.out (.inl rfl)).1]
      clear q1
      generalize hookA A pre = B at *
      go_wp2_with fail
      go_ret
      exact ⟨by rw [q3.out]; rfl, m, rfl⟩
    | cons e r =>
      have q1' : w.cell? (hookA A pre) = some (.pointer (some ⟨e.b, 0, none⟩)) := q1
      have h3 : ChAt w (pre ++ e :: r) := by rw [← hc.out]; exact P3.out
      have he := cell_of_row w e.b 0 _ _ (0, 0) h3.tail.1
      have he0 : w.cell? ⟨e.b, 0, none⟩ = some (.string e.key) := he
      by_cases hek : e.key = k
      · have q3 : Hid (hookA A (preE k c) = hookA A pre) := by
          refine Lib.hid ?_
          rw [hc.out, (pre_of (rest := e :: r) hk.out (.inr ⟨e, r, rfl, hek⟩)).1]
        clear q1 he h3
        generalize hookA A pre = B at *
        rw [hek] at he0
        go_wp2_with fail
        go_ret
        exact ⟨by rw [q3.out]; rfl, m, rfl⟩
      · have q3 := Lib.hid (hookA_snoc A pre e)
        have hne := str_ne hek
        have hk' := Lib.hid (preE_snoc hk.out hek)
        have hc' : Hid (c = (pre ++ [e]) ++ r) := Lib.hid (by rw [hc.out]; simp)
        clear q1 he h3
        generalize hookA A pre = B at *
        go_wp2_with fail
        go_roundg r.length
        case measure => simp
        case rel => exact ⟨pre ++ [e], r, hc', hk', by rw [q3.out], rfl, rfl⟩
end Go.Proofs.Ytpbbokpmlemboaa.Tb
