/-
  flash: the device, plain: pages that last, pages that wait, the power.
-/
import Derived.Test.YtpdljgjofebgpaaRows
import Derived.WalkKit
namespace Go.Proofs.Ytpdljgjofebgpaa
open Go.RowKit

/-- What stands on a page. -/
inductive Pg where
  | blank
  | torn
  | whole (b : List UInt8)

/-- A page: what lasts; what waits, if any does. -/
abbrev Pc := Pg × Option Pg
def Pc.now (c : Pc) : Pg := c.2.getD c.1

structure Dv where
  pg : List Pc
  off : Bool
  arm : Int
  loss : Int
  n0 : Int
  n1 : Int
  n2 : Int
  n3 : Int

abbrev inc (x : Int) : Int := wrap64 (x + 1)

def Dv.new (n : Nat) : Dv := ⟨List.replicate n (.blank, none), false, 0, 0, 0, 0, 0, 0⟩

/-- A call is paid. -/
def Dv.spend (D : Dv) : Dv :=
  if D.off = true then D else if 0 < D.arm then (if D.arm = 1 then { D with arm := 0, off := true, loss := inc D.loss } else { D with arm := D.arm - 1 }) else D

def Dv.put (D : Dv) (i : Nat) (p : Pg) : Dv := { D with pg := D.pg.modify i (fun c => (c.1, some p)), n0 := inc D.n0 }
/-- A page is written or erased: a page that is. -/
def Dv.change (D : Dv) (i : Nat) (p : Pg) : Dv := if D.spend.off = true then D.spend else D.spend.put i p

def pad (b : List UInt8) : List UInt8 := b ++ List.replicate (384 - b.length) 0
theorem pad_length {b : List UInt8} (h : b.length ≤ 384) : (pad b).length = 384 := by unfold pad; simp; omega
theorem pad_take (b : List UInt8) : (pad b).take b.length = b := by unfold pad; simp

def Dv.sunk (D : Dv) : Dv := { D with pg := D.pg.map (fun c => (Pc.now c, none)), n1 := inc D.n1 }
def Dv.flush (D : Dv) : Dv := if D.spend.off = true then D.spend else D.spend.sunk

def Dv.now (D : Dv) (i : Nat) : Pg := Pc.now (D.pg.getD i (.blank, none))
def Dv.read (D : Dv) : Dv := { D with n2 := inc D.n2 }

/-- How many of the pages ahead of i wait. -/
def rank (l : List Pc) (i : Nat) : Nat := ((l.take i).filter fun c => c.2.isSome).length
def fate (picks : List UInt8) (k : Nat) : Nat := if k < picks.length then (picks.getD k 0).toNat % 3 else 0
def pick (f : Nat) (c : Pc) : Pg := match c.2 with
  | none => c.1
  | some p => if f = 0 then c.1 else if f = 1 then p else .torn
def settled (l : List Pc) (picks : List UInt8) : List Pc := l.mapIdx fun i c => (pick (fate picks (rank l i)) c, none)
def Dv.settle (D : Dv) (picks : List UInt8) : Dv := { D with pg := settled D.pg picks, loss := inc D.loss }
def Dv.crash (D : Dv) (picks : List UInt8) : Dv := { D.settle picks with off := true, n3 := inc D.n3 }
def Dv.on (D : Dv) : Dv := { D.settle [] with off := false, arm := 0 }
def Dv.armed (D : Dv) (n : Int) : Dv := { D with arm := if n < 0 then 0 else n }

/-- The pages that wait, the least first. -/
def waits (l : List Pc) : List Nat := (List.range l.length).filter fun i => (l.getD i (.blank, none)).2.isSome
def Dv.waiting (D : Dv) : List Nat := waits D.pg

theorem spend_pg (D : Dv) : D.spend.pg = D.pg := by unfold Dv.spend; split; rfl; split; split; rfl; rfl; rfl
theorem modify_len {α : Type} (l : List α) (i : Nat) (f : α → α) : (l.modify i f).length = l.length := by simp
theorem change_len (D : Dv) (i : Nat) (p : Pg) : (D.change i p).pg.length = D.pg.length := by
  unfold Dv.change Dv.put
  split
  · rw [spend_pg]
  · simp [spend_pg]
theorem flush_len (D : Dv) : D.flush.pg.length = D.pg.length := by
  unfold Dv.flush Dv.sunk
  split
  · rw [spend_pg]
  · simp [spend_pg]
theorem settled_len (l : List Pc) (picks : List UInt8) : (settled l picks).length = l.length := by unfold settled; simp

theorem spend_off {D : Dv} (h : D.off = true) : D.spend = D := by unfold Dv.spend; rw [if_pos h]
theorem spend_on {D : Dv} (h : D.off = false) (ha : D.arm ≤ 0) : D.spend = D := by
  unfold Dv.spend
  rw [if_neg (by simp [h]), if_neg (by omega)]
theorem spend_last {D : Dv} (h : D.off = false) (ha : D.arm = 1) : D.spend = { D with arm := 0, off := true, loss := inc D.loss } := by
  unfold Dv.spend
  rw [if_neg (by simp [h]), if_pos (by omega), if_pos ha]
theorem spend_more {D : Dv} (h : D.off = false) (ha : 1 < D.arm) : D.spend = { D with arm := D.arm - 1 } := by
  unfold Dv.spend
  rw [if_neg (by simp [h]), if_pos (by omega), if_neg (by omega)]
theorem spend_arm {D : Dv} (h0 : 0 ≤ D.arm) (h1 : D.arm ≤ 9223372036854775807) : 0 ≤ D.spend.arm ∧ D.spend.arm ≤ 9223372036854775807 := by
  unfold Dv.spend
  split
  · exact ⟨h0, h1⟩
  · split
    · split
      · exact ⟨Int.le_refl 0, by show (0 : Int) ≤ _; omega⟩
      · exact ⟨by show 0 ≤ D.arm - 1; omega, by show D.arm - 1 ≤ _; omega⟩
    · exact ⟨h0, h1⟩

theorem rank_succ {l : List Pc} {i : Nat} (hi : i < l.length) : rank l (i + 1) = rank l i + (if (l.getD i (.blank, none)).2.isSome then 1 else 0) := by
  unfold rank
  rw [List.take_add_one, List.getElem?_eq_getElem hi, List.filter_append, List.length_append, List.getD_eq_getElem?_getD, List.getElem?_eq_getElem hi]
  simp only [Option.toList_some, Option.getD_some]
  by_cases h : l[i].2.isSome
  · simp [h]
  · simp [h]
theorem rank_mono {l : List Pc} {i j : Nat} (h : i ≤ j) : rank l i ≤ rank l j := by
  unfold rank
  have : l.take i = (l.take j).take i := by rw [List.take_take, Nat.min_eq_left h]
  rw [this]
  exact ((List.take_sublist _ _).filter _).length_le

theorem waits_mem {l : List Pc} {i : Nat} : i ∈ waits l ↔ i < l.length ∧ (l.getD i (.blank, none)).2.isSome = true := by
  unfold waits
  rw [List.mem_filter, List.mem_range]
theorem waits_sorted (l : List Pc) : (waits l).Pairwise (· < ·) := (List.pairwise_lt_range).filter _

/-- The k-th page that waits has k of them ahead. -/
theorem waits_upto (l : List Pc) : ∀ n, n ≤ l.length → ((List.range n).filter fun i => (l.getD i (.blank, none)).2.isSome).length = rank l n ∧
    ∀ k i, ((List.range n).filter fun i => (l.getD i (.blank, none)).2.isSome)[k]? = some i → rank l i = k
  | 0, _ => by
    refine ⟨by simp [rank], fun k i h => by simp at h⟩
  | n + 1, hn => by
    obtain ⟨h1, h2⟩ := waits_upto l n (by omega)
    have hs := rank_succ (l := l) (i := n) (by omega)
    rw [List.range_succ, List.filter_append]
    by_cases hp : (l.getD n (.blank, none)).2.isSome
    · have hf : [n].filter (fun i => (l.getD i (.blank, none)).2.isSome) = [n] := by rw [List.filter_cons, if_pos hp]; rfl
      rw [hf]
      rw [if_pos hp] at hs
      refine ⟨by rw [List.length_append, h1, hs]; rfl, fun k i h => ?_⟩
      rw [List.getElem?_append] at h
      split at h
      · exact h2 k i h
      · rename_i hk
        rw [h1] at hk h
        have hk0 : k - rank l n = 0 := by
          cases hk1 : k - rank l n with
          | zero => rfl
          | succ m => rw [hk1] at h; simp at h
        rw [hk0] at h
        have : n = i := by simpa using h
        rw [← this]
        omega
    · have hf : [n].filter (fun i => (l.getD i (.blank, none)).2.isSome) = [] := by rw [List.filter_cons, if_neg hp]; rfl
      rw [hf, List.append_nil]
      rw [if_neg hp] at hs
      exact ⟨by rw [h1, hs]; rfl, h2⟩
theorem waits_len (l : List Pc) : (waits l).length = rank l l.length := (waits_upto l l.length (Nat.le_refl _)).1
theorem waits_rank {l : List Pc} {k i : Nat} (h : (waits l)[k]? = some i) : rank l i = k := (waits_upto l l.length (Nat.le_refl _)).2 k i h

theorem settled_at (l : List Pc) (picks : List UInt8) (i : Nat) (c : Pc) (h : l[i]? = some c) : (settled l picks)[i]? = some (pick (fate picks (rank l i)) c, none) := by
  unfold settled
  rw [List.getElem?_mapIdx, h]
  rfl

end Go.Proofs.Ytpdljgjofebgpaa
