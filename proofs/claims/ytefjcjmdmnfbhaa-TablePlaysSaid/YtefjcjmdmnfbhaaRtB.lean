/-
  The reference's table: contracts of NewTable, Left, find, Get.
-/
import Derived.Test.YtefjcjmdmnfbhaaRtA
namespace Go.Proofs.Ytefjcjmdmnfbhaa
open Go.RowKit

theorem sl_info : (Try.prog.info? 29).map (fun i => (i.zero.map Value.cells, i.size, i.bytes)) = some (some #[.slice none 0 0], 1, 24) := by kernel_rfl
theorem made_sls (n : Nat) : madeCells #[.slice none 0 0] n = (List.replicate n (Value.slice none 0 0)).toArray := by
  unfold madeCells
  apply Array.ext
  · simp
  · intro i h1 h2
    simp [Nat.mod_one]
theorem InR.nil (w : World) (W : Nat) (kv : Value) : InR w W kv (.slice none 0 0) [] := ⟨RdS.nil w none 0, fun k hk => by cases hk⟩
theorem rows_new {w : World} {W g n : Nat} (kv : Value) (hW : W ≤ g) (h : w.heap[g]? = some (.cells (List.replicate n (Value.slice none 0 0)).toArray 29 (0, 0))) : RowsAt w W kv g (List.replicate n []) := by
  refine ⟨hW, _, h, by simp, fun i l hi => ?_⟩
  obtain ⟨hin, hl⟩ := List.getElem?_eq_some_iff.1 hi
  simp at hin hl
  subst hl
  exact ⟨.slice none 0 0, by simp [hin], InR.nil w W kv⟩

set_option maxHeartbeats 4000000 in
set_option maxRecDepth 100000 in
theorem newtable_eq (n : Nat) (w : World) (h2 : n ≤ 131072) :
    Calls Try.prog 15 #[.int .i64 n] w fun e w' => ∃ t gn, e = .returned (.pointer (some ⟨t, 0, none⟩)) ∧ Hid (RIn w' w.heap.size t gn (List.replicate n []) (.slice none 0 0) [] 0 (.slice none 0 0) (.slice none 0 0) []) ∧ Hid (Fr Nob w w') := by
  go_enter Try.func15, Try.ntmps15
  go_wp2_with (with_reducible refine wpList_make_all rfl _ _ 40 rfl 29 #[.slice none 0 0] 1 24 Try.underlying40 sl_info .i64 .i64 n rfl rfl (by omega) (by omega) ?_)
  intro cs hcs
  have hcs2 := hcs.out.trans (made_sls n)
  have HCS := Lib.hid hcs2
  clear hcs hcs2
  go_wp2_with fail
  go_ret
  have hg : (w.alloc (.cells cs 29)).heap[w.heap.size]? = some (.cells (List.replicate n (Value.slice none 0 0)).toArray 29 (0, 0)) := by rw [heap_alloc_new, HCS.out]
  have f1 : Fr Nob w (w.alloc (.cells cs 29)) := (Fr.refl Nob w).alloc _
  have hs1 : (w.alloc (.cells cs 29)).heap.size = w.heap.size + 1 := by simp
  generalize w.alloc (.cells cs 29) = w1 at *
  have hq := heap_alloc_new w1 (.cells #[.slice (some ⟨w.heap.size, 0, none⟩) n n, .slice none 0 0, .int .i64 0, .slice none 0 0, .slice none 0 0] 43)
  have f2 : Fr Nob w1 (w1.alloc (.cells #[.slice (some ⟨w.heap.size, 0, none⟩) n n, .slice none 0 0, .int .i64 0, .slice none 0 0, .slice none 0 0] 43)) := (Fr.refl Nob w1).alloc _
  have hg2 := f2.heap hg fun h => h
  rw [hs1] at hq
  generalize w1.alloc (.cells #[.slice (some ⟨w.heap.size, 0, none⟩) n n, .slice none 0 0, .int .i64 0, .slice none 0 0, .slice none 0 0] 43) = w2 at *
  refine ⟨w.heap.size + 1, w.heap.size, rfl, Lib.hid ⟨?_, rows_new _ (Nat.le_refl _) hg2, .inl ⟨rfl, rfl⟩, World.ownsRow_nil _ _ _ _, World.ownsRow_nil _ _ _ _, by omega⟩, Lib.hid (f1.trans' f2)⟩
  rw [List.length_replicate]
  exact hq

section
variable {w : World} {W t gn next : Nat} {nw od : List (List ByteArray)} {vo kv vv : Value} {m : List (ByteArray × Int)}
theorem RowsO.sl (h : RowsO w W kv gn vo od) : ∃ A, vo = .slice A od.length od.length := by
  rcases h with ⟨rfl, rfl⟩ | ⟨g, rfl, _⟩
  · exact ⟨none, rfl⟩
  · exact ⟨_, rfl⟩

set_option maxHeartbeats 4000000 in
set_option maxRecDepth 100000 in
theorem rleft_eq (s : RIn w W t gn nw vo od next kv vv m) (h : next ≤ od.length) (ho : od.length ≤ 65536) :
    Calls Try.prog 24 #[.pointer (some ⟨t, 0, none⟩)] w fun e w' => e = .returned (.int .i64 (od.length - next : Nat)) ∧ ∃ q, w' = w.drewN q := by
  obtain ⟨A, rfl⟩ := s.ods.sl
  have d1 : w.cell? ⟨t, 1, none⟩ = some (.slice A od.length od.length) := cell_of_row w t 1 _ _ (0, 0) s.hd
  have d2 : w.cell? ⟨t, 2, none⟩ = some (.int .i64 next) := cell_of_row w t 2 _ _ (0, 0) s.hd
  have e : IntKind.i64.wrap ((od.length : Int) - (next : Int)) = ((od.length - next : Nat) : Int) := by rw [IntKind.wrap_i64]; omega
  clear e s
  go_enter Try.func24, Try.ntmps24
  go_wp2_with fail
  go_quiet (fail)
  go_wp2_with fail
  go_ret
  exact ⟨ret_int (by omega), _, rfl⟩

theorem keys_at {m : List (ByteArray × Int)} {i : Nat} {x : ByteArray × Int} (h : m[i]? = some x) : (strsV (keysM m))[i]? = some (.string x.1) := by
  unfold strsV keysM
  rw [List.getElem?_map, List.getElem?_map, h]
  rfl
theorem own_nil {e : TypeId} {size : Nat} {v : Value} {xs : List Value} {n : Nat} (h : w.ownsRow W e size v n xs) (hn : 0 < n) : ∃ g cap, v = .slice (some ⟨g, 0, none⟩) n cap := by
  rcases h.2 with ⟨rfl, h1⟩ | ⟨g, cap, cur, rfl, _⟩
  · omega
  · exact ⟨g, cap, rfl⟩

/-- Where a key is found first, or -1. -/
def FirstAt (m : List (ByteArray × Int)) (k : ByteArray) (r : Int) : Prop :=
  (∃ (i : Nat) (v : Int), r = i ∧ m[i]? = some (k, v) ∧ ∀ j x, j < i → m[j]? = some x → x.1 ≠ k) ∨ (r = -1 ∧ ∀ (j : Nat) x, m[j]? = some x → x.1 ≠ k)

set_option maxHeartbeats 4000000 in
set_option maxRecDepth 100000 in
theorem rfind_eq (s : RIn w W t gn nw vo od next kv vv m) (k : ByteArray) (hm : m.length ≤ 1000001) :
    Calls Try.prog 35 #[.pointer (some ⟨t, 0, none⟩), .string k] w fun e w' => ∃ r, e = .returned (.int .i64 r) ∧ Hid (FirstAt m k r) ∧ w' = w := by
  have d3 : w.cell? ⟨t, 3, none⟩ = some kv := cell_of_row w t 3 _ _ (0, 0) s.hd
  obtain ⟨A, cap, rfl, _⟩ := own_shape s.ks
  have KS := Lib.hid s.ks
  clear s
  go_enter Try.func35, Try.ntmps35
  go_wp2_with fail
  go_loop [5] (fun i => ∃ j : Nat, j ≤ m.length ∧ i = .int .i64 j ∧ Hid (∀ q x, q < j → m[q]? = some x → x.1 ≠ k)) (fun i => m.length - (intOf i).toNat)
  case atStart => exact ⟨0, Nat.zero_le _, rfl, Lib.hid fun q _ hq => absurd hq (by omega)⟩
  case round =>
    obtain ⟨j, hj, rfl, hno⟩ := hrel
    by_cases hlt : j < m.length
    · obtain ⟨⟨x, v⟩, hx⟩ : ∃ x, m[j]? = some x := ⟨_, List.getElem?_eq_getElem hlt⟩
      obtain ⟨g, cap', he⟩ := own_nil KS.out (by omega)
      injection he with h1 h2 h3
      subst h1
      have c0 := KS.out.cells (g := g) rfl j _ (keys_at hx)
      rw [Addr.add_lit, Nat.zero_add] at c0
      have hlt1 : (j : Int) < (m.length : Int) := by omega
      have HX := Lib.hid hx
      have HLT := Lib.hid hlt
      clear hx h2 h3 hlt
      by_cases e : x = k
      · subst e
        have hm : Hid (FirstAt m x (j : Nat)) := Lib.hid (.inl ⟨j, v, rfl, HX.out, fun q y hq hy => hno.out q y hq hy⟩)
        clear hno KS
        go_wp2_with fail
        go_ret
        exact ⟨_, rfl, hm, rfl⟩
      · have e' := str_ne e
        have E := Lib.hid e
        clear e
        go_wp2_with fail
        go_round
        case rel => exact ⟨j + 1, by have := HLT.out; omega, by go_num, Lib.hid fun q y hq hy => by
          by_cases hqj : q = j
          · subst hqj
            rw [HX.out] at hy
            cases hy
            exact E.out
          · exact hno.out q y (by omega) hy⟩
        case measure => have := HLT.out; simp [intOf]; omega
    · have hj2 : j = m.length := by omega
      subst hj2
      have hm : Hid (FirstAt m k (-1)) := Lib.hid (.inr ⟨rfl, fun q y hy => hno.out q y (List.getElem?_eq_some_iff.1 hy).1 hy⟩)
      clear hno KS
      go_wp2_with fail
      go_ret
      exact ⟨_, rfl, hm, rfl⟩

theorem FirstAt.has {m : List (ByteArray × Int)} {k : ByteArray} {r : Int} (h : FirstAt m k r) : (0 ≤ r ↔ k ∈ keysM m) := by
  rcases h with ⟨i, v, rfl, hi, _⟩ | ⟨rfl, hno⟩
  · exact ⟨fun _ => List.mem_map.2 ⟨_, List.mem_of_getElem? hi, rfl⟩, fun _ => by omega⟩
  · refine ⟨fun h => absurd h (by omega), fun h => ?_⟩
    obtain ⟨x, hx, e⟩ := List.mem_map.1 h
    obtain ⟨i, hi, e2⟩ := List.getElem_of_mem hx
    exact absurd e (hno i x (by rw [List.getElem?_eq_getElem hi, e2]))
theorem first_get : ∀ {m : List (ByteArray × Int)} {k : ByteArray} {i : Nat} {v : Int}, m[i]? = some (k, v) → (∀ j x, j < i → m[j]? = some x → x.1 ≠ k) → getP m k = some v
  | [], _, _, _, h, _ => by simp at h
  | (y :: m), k, 0, v, h, _ => by
    simp at h
    subst h
    simp [getP]
  | (y :: m), k, i + 1, v, h, hno => by
    have h0 := hno 0 y (by omega) rfl
    have := first_get (m := m) (k := k) (i := i) (v := v) (by simpa using h) (fun j x hj hx => hno (j + 1) x (by omega) (by simpa using hx))
    unfold getP at this ⊢
    rw [List.find?_cons_of_neg (by simpa using h0)]
    exact this
theorem none_get {m : List (ByteArray × Int)} {k : ByteArray} (h : ∀ (j : Nat) x, m[j]? = some x → x.1 ≠ k) : getP m k = none := by
  unfold getP
  rw [List.find?_eq_none.2]
  · rfl
  · intro x hx
    obtain ⟨i, hi, e⟩ := List.getElem_of_mem hx
    simpa using h i x (by rw [List.getElem?_eq_getElem hi, e])
theorem vals_at {m : List (ByteArray × Int)} {i : Nat} {x : ByteArray × Int} (h : m[i]? = some x) : (intsV (m.map (·.2)))[i]? = some (.int .i64 x.2) := by
  unfold intsV
  rw [List.getElem?_map, List.getElem?_map, h]
  rfl

set_option maxHeartbeats 4000000 in
set_option maxRecDepth 100000 in
theorem rget_eq (s : RIn w W t gn nw vo od next kv vv m) (k : ByteArray) (hm : m.length ≤ 1000001) :
    Calls Try.prog 20 #[.pointer (some ⟨t, 0, none⟩), .string k] w fun e w' => e = .returned (.tuple #[.int .i64 (getV m k), .bool (getB m k)]) ∧ w' = w := by
  have d4 : w.cell? ⟨t, 4, none⟩ = some vv := cell_of_row w t 4 _ _ (0, 0) s.hd
  have FD := Lib.hid (rfind_eq s k hm)
  obtain ⟨A, cap, rfl, _⟩ := own_shape s.vs
  have VS := Lib.hid s.vs
  clear s
  go_enter Try.func20, Try.ntmps20
  go_wp2_with fail
  refine FD.out.mono ?_
  rintro e w1 ⟨r, rfl, hf, rfl⟩
  rcases hf.out with ⟨i, v, rfl, hi, hno⟩ | ⟨rfl, hno⟩
  · have hg := first_get hi hno
    have hlt := (List.getElem?_eq_some_iff.1 hi).1
    obtain ⟨g, cap', he⟩ := own_nil VS.out (by omega)
    injection he with h1 h2 h3
    subst h1
    have c0 := VS.out.cells (g := g) rfl i _ (vals_at hi)
    rw [Addr.add_lit, Nat.zero_add] at c0
    have hlt1 : (i : Int) < (m.length : Int) := by omega
    have h0 : ¬ (i : Int) < 0 := by omega
    have e1 : getV m k = v := by unfold getV; rw [hg]; rfl
    have e2 : getB m k = true := by unfold getB; rw [hg]; rfl
    have E1 := Lib.hid e1
    have E2 := Lib.hid e2
    clear hf hno hg hi VS h2 h3 e1 e2 hlt
    go_wp2_with fail
    go_ret2
    exact ⟨by rw [E1.out, E2.out]; rfl, rfl⟩
  · have hg := none_get hno
    have e1 : getV m k = 0 := by unfold getV; rw [hg]; rfl
    have e2 : getB m k = false := by unfold getB; rw [hg]; rfl
    have E1 := Lib.hid e1
    have E2 := Lib.hid e2
    clear hf hno hg VS e1 e2
    go_wp2_with fail
    go_ret2
    exact ⟨by rw [E1.out, E2.out]; rfl, rfl⟩
end
end Go.Proofs.Ytefjcjmdmnfbhaa
