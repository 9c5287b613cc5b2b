/-
  The program's table and the document's beside it: one law a call.
-/
import Derived.Test.YtefjcjmdmnfbhaaRtH
import Derived.Test.YtefjcjmdmnfbhaaRtJ
import Derived.Test.YtefjcjmdmnfbhaaRtL
namespace Go.Proofs.Ytefjcjmdmnfbhaa
open Go.RowKit

theorem RB.not_tab {w : World} {k : Nat} (h : RB w k) : ¬ TabB w k := by
  rintro ⟨cs', t', h', h2⟩
  obtain ⟨cs, t, c, ht⟩ := h
  rw [c] at h'
  injection h' with h'
  injection h' with _ e
  subst e
  rcases ht with rfl | rfl | rfl | rfl <;> rcases h2 with h2 | h2 | h2 <;> exact absurd h2 (by decide)
theorem RT.keep {w w' : World} {W t : Nat} {S : KT} {X : Nat → Prop} (h : RT w W t S) (f : Fr X w w') (hx : ∀ k, RB w k → ¬ X k) : RT w' W t S := by
  obtain ⟨gn, vo, od, next, kv, vv, s, r⟩ := h
  exact ⟨gn, vo, od, next, kv, vv, s.keep f hx, r⟩

/-- The program's table t holds S, the document's table r holds S'. -/
structure PT (W0 wr : World) (t r : Nat) (S S' : KT) : Prop where
  dt : DT W0 wr t S
  ok : S'.Ok
  rt : ∃ Wr, W0.heap.size ≤ Wr ∧ Wr ≤ wr.heap.size ∧ RT wr Wr r S'

section
variable {W0 wr w' : World} {t r : Nat} {S S' : KT}
theorem PT.nob (p : PT W0 wr t r S S') (f : Fr Nob wr w') : PT W0 w' t r S S' := by
  obtain ⟨dt, ok, Wr, h1, h2, h3⟩ := p
  exact ⟨dt.nob f, ok, Wr, h1, Nat.le_trans h2 f.size, h3.keep f fun _ _ h => h⟩
theorem PT.set (p : PT W0 wr t r S S') (k : ByteArray) (v : Int) (hs : k.size < 9223372036854775808) (hm : S.m.length ≤ 1000000) :
    Calls Try.prog 16 #[.pointer (some ⟨t, 0, none⟩), .string k, .int .i64 v] wr fun e w' => e = .returned (.bool (decide (k ∉ keysM S.m))) ∧ Hid (PT W0 w' t r (setK S k v) S') ∧ Hid (Fr (TabB wr) wr w') := by
  obtain ⟨dt, ok, Wr, h1, h2, h3⟩ := p
  refine (dt.set k v hs hm).mono ?_
  rintro e w' ⟨rfl, d, f⟩
  exact ⟨rfl, Lib.hid ⟨d.out, ok, Wr, h1, Nat.le_trans h2 f.out.size, h3.keep f.out fun k h => h.not_tab⟩, f⟩
theorem PT.del (p : PT W0 wr t r S S') (k : ByteArray) (hs : k.size < 9223372036854775808) (hm : S.m.length ≤ 1000000) :
    Calls Try.prog 18 #[.pointer (some ⟨t, 0, none⟩), .string k] wr fun e w' => e = .returned (.bool (decide (k ∈ keysM S.m))) ∧ Hid (PT W0 w' t r (delK S k) S') ∧ Hid (Fr (TabB wr) wr w') := by
  obtain ⟨dt, ok, Wr, h1, h2, h3⟩ := p
  refine (dt.del k hs hm).mono ?_
  rintro e w' ⟨rfl, d, f⟩
  exact ⟨rfl, Lib.hid ⟨d.out, ok, Wr, h1, Nat.le_trans h2 f.out.size, h3.keep f.out fun k h => h.not_tab⟩, f⟩
theorem PT.low (p : PT W0 wr t r S S') : ∃ Wr, W0.heap.size ≤ Wr ∧ RT wr Wr r S' := by
  obtain ⟨_, _, Wr, h1, _, h3⟩ := p
  exact ⟨Wr, h1, h3⟩
theorem PT.rset (p : PT W0 wr t r S S') (k : ByteArray) (v : Int) (hs : k.size < 9223372036854775808) (hm : S'.m.length ≤ 1000000) :
    Calls Try.prog 17 #[.pointer (some ⟨r, 0, none⟩), .string k, .int .i64 v] wr fun e w' => e = .returned (.bool (decide (k ∉ keysM S'.m))) ∧ Hid (PT W0 w' t r S (setK S' k v)) ∧ Hid (Fr (fun k => RB wr k ∧ W0.heap.size ≤ k) wr w') := by
  obtain ⟨dt, ok, Wr, h1, h2, h3⟩ := p
  by_cases hk : k ∈ keysM S'.m
  · refine (rtset_old h3 ok k v hm h2 hk).mono ?_
    rintro e w' ⟨rfl, d, f⟩
    refine ⟨by rw [decide_eq_false (fun h => h hk)], Lib.hid ⟨dt.keep f.out (fun k h1 h2 => h2.1.not_tab h1) (fun k hk h => by have := h.2; omega), setK_ok ok k v hs, Wr, h1, Nat.le_trans h2 f.out.size, d.out⟩, Lib.hid (f.out.mono fun k _ h => ⟨h.1, Nat.le_trans h1 h.2⟩)⟩
  · refine (rtset_new h3 ok k v hs hm h2 hk).mono ?_
    rintro e w' ⟨rfl, d, f⟩
    refine ⟨by rw [decide_eq_true hk], Lib.hid ⟨dt.keep f.out (fun k h1 h2 => h2.1.not_tab h1) (fun k hk h => by have := h.2; omega), setK_ok ok k v hs, Wr, h1, Nat.le_trans h2 f.out.size, d.out⟩, Lib.hid (f.out.mono fun k _ h => ⟨h.1, Nat.le_trans h1 h.2⟩)⟩
theorem PT.rdel (p : PT W0 wr t r S S') (k : ByteArray) (hm : S'.m.length ≤ 1000000) :
    Calls Try.prog 19 #[.pointer (some ⟨r, 0, none⟩), .string k] wr fun e w' => e = .returned (.bool (decide (k ∈ keysM S'.m))) ∧ Hid (PT W0 w' t r S (delK S' k)) ∧ Hid (Fr (fun k => RB wr k ∧ W0.heap.size ≤ k) wr w') := by
  obtain ⟨dt, ok, Wr, h1, h2, h3⟩ := p
  by_cases hk : k ∈ keysM S'.m
  · refine (rtdel_yes h3 ok k hm h2 hk).mono ?_
    rintro e w' ⟨rfl, d, f⟩
    refine ⟨by rw [decide_eq_true hk], Lib.hid ⟨dt.keep f.out (fun k h1 h2 => h2.1.not_tab h1) (fun k hk h => by have := h.2; omega), delK_ok ok k, Wr, h1, Nat.le_trans h2 f.out.size, d.out⟩, Lib.hid (f.out.mono fun k _ h => ⟨h.1, Nat.le_trans h1 h.2⟩)⟩
  · refine (rtdel_no h3 ok k hm h2 hk).mono ?_
    rintro e w' ⟨rfl, d, f⟩
    refine ⟨by rw [decide_eq_false hk], Lib.hid ⟨dt.keep f.out (fun k h1 h2 => h2.1.not_tab h1) (fun k hk h => by have := h.2; omega), delK_ok ok k, Wr, h1, Nat.le_trans h2 f.out.size, d.out⟩, Lib.hid (f.out.mono fun k _ h => ⟨h.1, Nat.le_trans h1 h.2⟩)⟩
theorem PT.rget (p : PT W0 wr t r S S') (k : ByteArray) (hm : S'.m.length ≤ 1000001) :
    Calls Try.prog 20 #[.pointer (some ⟨r, 0, none⟩), .string k] wr fun e w' => e = .returned (.tuple #[.int .i64 (getV S'.m k), .bool (getB S'.m k)]) ∧ w' = wr := by
  obtain ⟨dt, ok, Wr, h1, h2, gn, vo, od, next, kv, vv, s, rs⟩ := p
  exact rget_eq s k hm
theorem PT.rleft (p : PT W0 wr t r S S') : Calls Try.prog 24 #[.pointer (some ⟨r, 0, none⟩)] wr fun e w' => e = .returned (.int .i64 S'.left) ∧ ∃ q, w' = wr.drewN q := by
  obtain ⟨dt, ok, Wr, h1, h2, gn, vo, od, next, kv, vv, s, rs⟩ := p
  rw [rs.left]
  exact rleft_eq s rs.le rs.big
theorem PT.rsorted (p : PT W0 wr t r S S') (hm : S'.m.length ≤ 1000000) :
    Calls Try.prog 26 #[.pointer (some ⟨r, 0, none⟩)] wr fun e w' => ∃ v, e = .returned v ∧ Hid (RdS w' v (sortB (keysM S'.m))) ∧ Hid (Fr Nob wr w') := by
  obtain ⟨dt, ok, Wr, h1, h2, gn, vo, od, next, kv, vv, s, rs⟩ := p
  refine (rsorted_eq s hm).mono ?_
  rintro e w' ⟨v, L, rfl, h, hs, hp, f⟩
  rw [← sortB_unique hp.out hs.out] at h
  exact ⟨v, rfl, h, f⟩
/-- The cells of the document's table: its buckets, its keys. -/
theorem PT.rhd (p : PT W0 wr t r S S') : ∃ gn kv cs cap, wr.cell? ⟨r, 0, none⟩ = some (.slice (some ⟨gn, 0, none⟩) S'.now.length S'.now.length) ∧ wr.cell? ⟨r, 3, none⟩ = some kv ∧ (∃ A, kv = .slice A S'.m.length cap) ∧
    wr.heap[gn]? = some (.cells cs 29 (0, 0)) ∧ ∀ (i : Nat) (l : List ByteArray), S'.now[i]? = some l → ∃ u, cs[i]? = some u ∧ RdS wr u l := by
  obtain ⟨dt, ok, Wr, h1, h2, gn, vo, od, next, kv, vv, s, rs⟩ := p
  obtain ⟨_, cs, c, _, hr⟩ := s.nws
  obtain ⟨A, cap, hk, _⟩ := own_shape s.ks
  exact ⟨gn, kv, cs, cap, cell_of_row wr r 0 _ _ (0, 0) s.hd, cell_of_row wr r 3 _ _ (0, 0) s.hd, ⟨A, hk⟩, c, fun i l hi => by
    obtain ⟨u, hu, hin⟩ := hr i l hi
    exact ⟨u, hu, hin.1⟩⟩
theorem PT.new {w : World} {S : KT} (dt : DT W0 w t S) (n : Nat) (h1 : 1 ≤ n) (h2 : n ≤ 1024) :
    Calls Try.prog 15 #[.int .i64 n] w fun e w' => ∃ r, e = .returned (.pointer (some ⟨r, 0, none⟩)) ∧ Hid (PT W0 w' t r S (newK n)) ∧ Hid (Fr Nob w w') := by
  refine (newtable_eq n w (by omega)).mono ?_
  rintro e w' ⟨r, gn, rfl, s, f⟩
  exact ⟨r, rfl, Lib.hid ⟨dt.nob f.out, newK_ok (by omega) (by omega), w.heap.size, dt.fr.size, f.out.size, gn, _, _, 0, _, _, s.out, rsim_new n⟩, f⟩
end
end Go.Proofs.Ytefjcjmdmnfbhaa
