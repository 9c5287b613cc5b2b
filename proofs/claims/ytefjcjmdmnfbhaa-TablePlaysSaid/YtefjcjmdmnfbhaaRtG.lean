/-
  The reference's table beside the plain one: move; Set of a key that is there.
-/
import Derived.Test.YtefjcjmdmnfbhaaRtF
namespace Go.Proofs.Ytefjcjmdmnfbhaa
open Go.RowKit

/-- The document's table holds what the plain one S holds. -/
def RT (w : World) (W t : Nat) (S : KT) : Prop := ∃ gn vo od next kv vv, RIn w W t gn S.now vo od next kv vv S.m ∧ RSim S od next

theorem RW.back {W : Nat} {w w1 : World} (f : Fr (RW W w) w w1) {i : Nat} (hi : i < w.heap.size) (h : RW W w1 i) : RW W w i := by
  by_cases hn : RW W w i
  · exact hn
  · obtain ⟨⟨cs, t, c, ht⟩, hW⟩ := h
    rw [f.block i hi hn] at c
    exact absurd ⟨⟨cs, t, c, ht⟩, hW⟩ hn
theorem Fr.rbs {W : Nat} {w w1 w2 : World} (f : Fr (RW W w) w w1) (g : Fr (RW W w1) w1 w2) : Fr (RW W w) w w2 := f.trans g fun _ hi h => RW.back f hi h

section
variable {w : World} {W t gn next : Nat} {nw od : List (List ByteArray)} {vo kv vv : Value} {m : List (ByteArray × Int)} {S : KT}
theorem sizes_move {S : KT} (ok : S.Ok) (i : Nat) : (S.old.getD i []).length + S.now.flatten.length ≤ S.m.length := by
  have := ok.len
  have := chain_len (l := S.old) (i := i)
  omega
theorem size_old {S : KT} (ok : S.Ok) {i : Nat} {k : ByteArray} (h : k ∈ S.old.getD i []) : k.size < 9223372036854775808 :=
  ok.sz k (ok.perm.mem_iff.1 (List.mem_append.2 (.inr (mem_flatten_getD.2 ⟨i, getD_len h, h⟩))))

theorem rtmove (h : RT w W t S) (ok : S.Ok) (hm : S.m.length ≤ 1000000) (hW : W ≤ w.heap.size) :
    Calls Try.prog 34 #[.pointer (some ⟨t, 0, none⟩)] w fun e w' => e = .returned (.tuple #[]) ∧ Hid (RT w' W t (moveK S)) ∧ Hid (Fr (RW W w) w w') := by
  obtain ⟨gn, vo, od, next, kv, vv, s, r⟩ := h
  by_cases h : next < od.length
  · obtain ⟨hf, he⟩ := r.first h
    obtain ⟨r2, e2⟩ := r.move h ok
    have h1 := sizes_move ok next
    rw [← he] at h1
    refine (rmove_eq s h r.big ok.pos ok.big (by omega) (fun k hk => size_old ok (by rw [← he]; exact hk)) hW).mono ?_
    rintro e w' ⟨rfl, s2, f⟩
    exact ⟨rfl, Lib.hid ⟨gn, vo, _, next + 1, kv, vv, by rw [e2, moveK_m]; exact s2.out, r2⟩, f⟩
  · refine (rmove_idle s (by omega)).mono ?_
    rintro e w' ⟨rfl, q, rfl⟩
    rw [r.idle (by omega)]
    exact ⟨rfl, Lib.hid ⟨gn, vo, od, next, kv, vv, s.nob ((Fr.refl Nob w).drewN q), r⟩, Lib.hid ((Fr.refl _ w).drewN q)⟩

theorem updP_vals : ∀ {m : List (ByteArray × Int)} {k : ByteArray} {i : Nat} {u v : Int}, (keysM m).Nodup → m[i]? = some (k, u) → (updP m k v).map (·.2) = (m.map (·.2)).set i v
  | [], _, _, _, _, _, h => by simp at h
  | (y :: m), k, 0, u, v, hd, h => by
    simp at h
    subst h
    have hn : k ∉ keysM m := by
      unfold keysM at hd ⊢
      rw [List.map_cons, List.nodup_cons] at hd
      exact hd.1
    have : updP m k v = m := by
      unfold updP
      refine (List.map_congr_left fun x hx => ?_).trans (List.map_id m)
      rw [if_neg]
      · rfl
      · intro e
        exact hn (List.mem_map.2 ⟨x, hx, e⟩)
    show (updP ((k, u) :: m) k v).map (·.2) = _
    have e2 : updP ((k, u) :: m) k v = (k, v) :: updP m k v := by unfold updP; rw [List.map_cons, if_pos rfl]
    rw [e2, this]
    rfl
  | (y :: m), k, i + 1, u, v, hd, h => by
    have hd2 : (keysM m).Nodup := by
      unfold keysM at hd ⊢
      rw [List.map_cons, List.nodup_cons] at hd
      exact hd.2
    have hne : y.1 ≠ k := by
      unfold keysM at hd
      rw [List.map_cons, List.nodup_cons] at hd
      intro e
      have hm : (k, u) ∈ m := List.mem_of_getElem? (by simpa using h)
      exact hd.1 (by rw [e]; exact List.mem_map.2 ⟨_, hm, rfl⟩)
    have ih := updP_vals (v := v) hd2 (by simpa using h : m[i]? = some (k, u))
    have e2 : updP (y :: m) k v = y :: updP m k v := by unfold updP; rw [List.map_cons, if_neg hne]
    rw [e2, List.map_cons, ih]
    rfl

set_option maxHeartbeats 8000000 in
set_option maxRecDepth 100000 in
theorem rtset_old (h : RT w W t S) (ok : S.Ok) (k : ByteArray) (v : Int) (hm : S.m.length ≤ 1000000) (hW : W ≤ w.heap.size) (hk : k ∈ keysM S.m) :
    Calls Try.prog 17 #[.pointer (some ⟨t, 0, none⟩), .string k, .int .i64 v] w fun e w' => e = .returned (.bool false) ∧ Hid (RT w' W t (setK S k v)) ∧ Hid (Fr (RW W w) w w') := by
  have MV := Lib.hid (rtmove h ok hm hW)
  have ok1 := moveK_ok ok
  have hk1 : k ∈ keysM (moveK S).m := by rw [moveK_m]; exact hk
  have hm1 : (moveK S).m.length ≤ 1000000 := by rw [moveK_m]; exact hm
  have hset : setK S k v = { moveK S with m := updP (moveK S).m k v } := if_pos hk1
  rw [hset]
  generalize moveK S = S1 at *
  have OK := Lib.hid ok1
  have HK := Lib.hid hk1
  have HM := Lib.hid hm1
  clear h ok ok1 hk hk1 hm1 hset
  go_enter Try.func17, Try.ntmps17
  go_wp2_with fail
  refine MV.out.mono ?_
  rintro e w1 ⟨rfl, h1, f1⟩
  obtain ⟨gn, vo, od, next, kv, vv, s, r⟩ := h1.out
  go_wp2_with fail
  refine (rfind_eq s k (by have := HM.out; omega)).mono ?_
  rintro e w2 ⟨rr, rfl, hf, rfl⟩
  rcases hf.out with ⟨i, u, rfl, hi, hno⟩ | ⟨rfl, hno⟩
  · have hlt := (List.getElem?_eq_some_iff.1 hi).1
    have s2 := s.two
    obtain ⟨g, cap', rfl⟩ := own_nil s.vs (by omega)
    have S2 := Lib.hid s2
    have d4 : w2.cell? ⟨t, 4, none⟩ = some (.slice (some ⟨g, 0, none⟩) S1.m.length cap') := cell_of_row w2 t 4 _ _ (0, 0) s.hd
    have c0 := s.vs.cells (g := g) rfl i _ (vals_at hi)
    rw [Addr.add_lit, Nat.zero_add] at c0
    have fz : w2.frozen? ⟨g, i, none⟩ = false := by
      obtain ⟨⟨cur, h2⟩, _⟩ := row_is s.vs
      exact frozen_of_row w2 g i _ _ h2
    have hlt1 : (i : Int) < (S1.m.length : Int) := by omega
    have h0 : (0 : Int) ≤ (i : Int) := by omega
    have hml := HM.out
    have HV := Lib.hid (updP_vals (v := v) OK.out.nd hi)
    have GB := Lib.hid (own_rw s.vs (.inr rfl) (k := g) rfl)
    have R := Lib.hid r
    clear hf hi hno s s2 r hlt
    go_wp2_with fail
    go_ret
    refine ⟨rfl, Lib.hid ⟨gn, vo, od, next, kv, .slice (some ⟨g, 0, none⟩) S1.m.length cap', RIn2.one ?_, R.out.upd rfl rfl⟩, Lib.hid (f1.out.rbs ((Fr.refl _ _).setCell _ (fun _ => GB.out) _))⟩
    show RIn2 _ W t gn S1.now vo od next kv _ (keysM (updP S1.m k v)) ((updP S1.m k v).map (·.2))
    rw [updP_keys, HV.out]
    exact S2.out.setVal i v
  · obtain ⟨x, hx, e⟩ := List.mem_map.1 HK.out
    obtain ⟨i, hi, e2⟩ := List.getElem_of_mem hx
    exact absurd e (hno i x (by rw [List.getElem?_eq_getElem hi, e2]))
end
end Go.Proofs.Ytefjcjmdmnfbhaa
