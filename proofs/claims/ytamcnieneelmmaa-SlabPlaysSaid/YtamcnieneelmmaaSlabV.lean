/-
  The reference's NewSlab.
-/
import Derived.Test.YtamcnieneelmmaaSlabU
import Derived.Test.YtamcnieneelmmaaSlabApart
namespace Go.Proofs.Ytamcnieneelmmaa
open Go.RowKit

theorem row_info : (Try.prog.info? 54).map (fun i => (i.zero.map Value.cells, i.size, i.bytes)) = some (some #[.slice none 0 0], 1, 24) := by kernel_rfl

theorem own_type {w : World} {b1 b2 : Nat} {e1 e2 : TypeId} {v1 v2 : Value} {n1 n2 : Nat} {x1 x2 : List Value} (h1 : w.ownsRow b1 e1 1 v1 n1 x1) (h2 : w.ownsRow b2 e2 1 v2 n2 x2) (hne : e1 ≠ e2) : ∀ g, v1.ownBlock = some g → v2.ownBlock ≠ some g := by
  intro g hg hg2
  rcases h1.2 with ⟨a1, _⟩ | ⟨g1, c1, cur1, a1, _, a2, _⟩
  · rw [a1] at hg; cases hg
  · rcases h2.2 with ⟨c1, _⟩ | ⟨g2, c2, cur2, c1, _, c2, _⟩
    · rw [c1] at hg2; cases hg2
    · rw [a1] at hg
      rw [c1] at hg2
      have := own_is hg
      have := own_is hg2
      subst_vars
      rw [a2] at c2
      injection c2 with c2
      injection c2 with _ c2
      exact hne c2
theorem own_zero {w : World} {b : Nat} {e : TypeId} {v : Value} {n : Nat} {x : List Value} (h : w.ownsRow b e 1 v n x) : w.ownsRow 0 e 1 v n x := by
  refine ⟨h.1, ?_⟩
  rcases h.2 with h2 | ⟨g, cap, cur, a, _, c⟩
  · exact .inl h2
  · exact .inr ⟨g, cap, cur, a, Nat.zero_le _, c⟩

structure NS (w0 wr : World) (k0 k1 : Nat) (V0 V1 : Value) : Prop where
  top : wr.heap[w0.heap.size]? = some (.cells #[V0, V1] 41 (0, 0))
  o0 : wr.ownsRow (w0.heap.size + 1) 3 1 V0 k0 (List.replicate k0 (.int .i64 (-1)))
  o1 : wr.ownsRow (w0.heap.size + 1) 54 1 V1 k1 (List.replicate k1 (.slice none 0 0))
  fr : Fr Nob w0 wr

section
variable {w0 wr w3 : World} {k0 k1 n : Nat} {V0 V1 V : Value} {o : Obj}
theorem NS.cells (s : NS w0 wr k0 k1 V0 V1) : wr.cell? ⟨w0.heap.size, 0, none⟩ = some V0 ∧ wr.cell? ⟨w0.heap.size, 1, none⟩ = some V1 ∧ wr.frozen? ⟨w0.heap.size, 0, none⟩ = false ∧ wr.frozen? ⟨w0.heap.size, 1, none⟩ = false :=
  ⟨cell_of_row wr _ 0 _ _ (0, 0) s.top, cell_of_row wr _ 1 _ _ (0, 0) s.top, frozen_of_row wr _ 0 _ _ s.top, frozen_of_row wr _ 1 _ _ s.top⟩
theorem NS.alloc (s : NS w0 wr k0 k1 V0 V1) (o : Obj) : NS w0 (wr.alloc o) k0 k1 V0 V1 := by
  have f : Fr Nob wr (wr.alloc o) := (Fr.refl _ _).alloc o
  exact ⟨f.heap s.top (fun h => h), f.ownsRow s.o0 fun _ _ h => h, f.ownsRow s.o1 fun _ _ h => h, s.fr.alloc o⟩
theorem NS.step0 (s : NS w0 wr k0 k1 V0 V1) (f : Fr (fun k => V0.ownBlock = some k) wr w3) (ho : w3.ownsRow (w0.heap.size + 1) 3 1 V (k0 + 1) (List.replicate k0 (.int .i64 (-1)) ++ [.int .i64 (-1)])) :
    Hid (NS w0 (w3.setCell ⟨w0.heap.size, 0, none⟩ V) (k0 + 1) k1 V V1) ∧ w3.cell? ⟨w0.heap.size, 0, none⟩ = some V0 ∧ w3.frozen? ⟨w0.heap.size, 0, none⟩ = false := by
  have hn : ¬ V0.ownBlock = some w0.heap.size := ownsRow_base s.o0 _ (Nat.lt_succ_self _)
  have t3 := f.heap s.top hn
  have r1 := f.ownsRow s.o1 fun k hk => own_type s.o1 s.o0 (by decide) k hk
  refine ⟨Lib.hid ⟨heap_setCell_same w3 _ 0 _ _ _ t3, ?_, ?_, ?_⟩, cell_of_row w3 _ 0 _ _ (0, 0) t3, frozen_of_row w3 _ 0 _ _ t3⟩
  · rw [List.replicate_succ']
    exact ownsRow_setCell_other ho (ownsRow_base ho _ (Nat.lt_succ_self _)) _
  · exact ownsRow_setCell_other r1 (ownsRow_base r1 _ (Nat.lt_succ_self _)) _
  · have f' : Fr Nob w0 w3 := s.fr.trans f fun k hk h => absurd h (ownsRow_base s.o0 k (by omega))
    exact f'.setCell _ (fun h => absurd h (Nat.lt_irrefl _)) _
theorem NS.step1 (s : NS w0 wr k0 k1 V0 V1) (f : Fr (fun k => V1.ownBlock = some k) wr w3) (ho : w3.ownsRow (w0.heap.size + 1) 54 1 V (k1 + 1) (List.replicate k1 (.slice none 0 0) ++ [.slice none 0 0])) :
    Hid (NS w0 (w3.setCell ⟨w0.heap.size, 1, none⟩ V) k0 (k1 + 1) V0 V) ∧ w3.cell? ⟨w0.heap.size, 1, none⟩ = some V1 ∧ w3.frozen? ⟨w0.heap.size, 1, none⟩ = false := by
  have hn : ¬ V1.ownBlock = some w0.heap.size := ownsRow_base s.o1 _ (Nat.lt_succ_self _)
  have t3 := f.heap s.top hn
  have r0 := f.ownsRow s.o0 fun k hk => own_type s.o0 s.o1 (by decide) k hk
  refine ⟨Lib.hid ⟨heap_setCell_same w3 _ 1 _ _ _ t3, ?_, ?_, ?_⟩, cell_of_row w3 _ 1 _ _ (0, 0) t3, frozen_of_row w3 _ 1 _ _ t3⟩
  · exact ownsRow_setCell_other r0 (ownsRow_base r0 _ (Nat.lt_succ_self _)) _
  · rw [List.replicate_succ']
    exact ownsRow_setCell_other ho (ownsRow_base ho _ (Nat.lt_succ_self _)) _
  · have f' : Fr Nob w0 w3 := s.fr.trans f fun k hk h => absurd h (ownsRow_base s.o1 k (by omega))
    exact f'.setCell _ (fun h => absurd h (Nat.lt_irrefl _)) _

theorem clsV_new (n : Nat) : clsV (List.replicate n Pg.new) = List.replicate n (.int .i64 (-1)) := by unfold clsV; rw [List.map_replicate]; rfl
theorem NS.done (s : NS w0 wr n n V0 V1) (h1 : 1 ≤ n) (h2 : n ≤ 1024) : ∃ K, RSAt wr w0.heap.size K (List.replicate n Pg.new) ∧ ∀ k, K k → w0.heap.size ≤ k := by
  obtain ⟨go, c0, rfl, b0, _⟩ := s.o0.form (by omega)
  obtain ⟨gt, c1, rfl, b1, _⟩ := s.o1.form (by omega)
  have hl : (List.replicate n Pg.new).length = n := List.length_replicate
  refine ⟨_, ⟨go, gt, c0, c1, fun _ => .slice none 0 0, ⟨?_, ?_, ?_, fun i hi => ?_, (fun i g hi hg => by cases hg), (fun i j g hi hj hne hg => by cases hg), ?_, ?_, fun q hq => ?_⟩, fun k => Iff.rfl⟩, fun k hk => ?_⟩
  · rw [hl]; exact s.top
  · rw [hl, clsV_new]; exact own_zero s.o0
  · rw [hl]
    have e : (List.range n).map (fun _ => Value.slice none 0 0) = List.replicate n (.slice none 0 0) := by
      rw [List.map_const', List.length_range]
    rw [e]; exact own_zero s.o1
  · simp only [List.getElem_replicate]
    exact World.ownsRow_nil _ _ _ _
  · rw [hl]; exact h1
  · rw [hl]; exact h2
  · rw [(List.mem_replicate.1 hq).2]; exact .inl ⟨rfl, rfl, fun _ => rfl⟩
  · rcases hk with h | h | h | ⟨i, hi, h⟩
    · omega
    · omega
    · omega
    · cases h
end

set_option maxHeartbeats 3200000 in
set_option maxRecDepth 100000 in
theorem refNew_eq (w : World) (n : Nat) (h1 : 1 ≤ n) (h2 : n ≤ 1024) :
    Calls Try.prog 18 #[.int .i64 n] w fun e w' => ∃ u K, e = .returned (.pointer (some ⟨u, 0, none⟩)) ∧ Hid (RSAt w' u K (List.replicate n Pg.new)) ∧ Hid (Fr Nob w w') ∧ Hid (∀ k, K k → w.heap.size ≤ k) := by
  go_enter Try.func18, Try.ntmps18
  go_wp2_with fail
  have st : Hid (NS w (w.alloc (.cells #[.slice none 0 0, .slice none 0 0] 41)) 0 0 (.slice none 0 0) (.slice none 0 0)) := Lib.hid
    ⟨heap_alloc_new _ _, World.ownsRow_nil _ _ _ _, World.ownsRow_nil _ _ _ _, (Fr.refl _ _).alloc _⟩
  go_loopw [4] (fun i wr => ∃ (k : Nat) (V0 V1 : Value), k ≤ n ∧ i = .int .i64 k ∧ Hid (NS w wr k k V0 V1)) (fun i _ => n - (intOf i).toNat)
  case atStart => exact ⟨0, _, _, Nat.zero_le _, rfl, st⟩
  case round =>
    clear st
    obtain ⟨k, V0, V1, hk, rfl, st⟩ := hrel
    obtain ⟨A0, c0, rfl⟩ := own_form st.out.o0
    obtain ⟨A1, c1, rfl⟩ := own_form st.out.o1
    have hsz := st.out.fr.size
    have hu := lt_of_block st.out.top
    by_cases hlt : k < n
    · obtain ⟨d0, d1, e0, e1⟩ := st.out.cells
      have st1 := Lib.hid (st.out.alloc (.cells #[.int .i64 (-1)] 3))
      go_wp2_with (with_reducible refine wpList_app (o := ⟨some 18, _, _, _, _, _⟩) rfl (.tmp 16) (.tmp 17) 35 rfl 3 #[.int .i64 0] 1 8 Try.underlying35 int_info rfl (by omega) (w.heap.size + 1) (.slice A0 k c0) k (List.replicate k (.int .i64 (-1))) rfl st1.out.o0 ⟨wr.heap.size, 0, none⟩ 1 1 [.int .i64 (-1)] rfl rfl (new_one wr _ _) (by simp [Value.oneCell']) (by omega) (by omega) (by simp; omega) ?_)
      intro v0 w3 o3 f3 h3
      obtain ⟨st2, g0, g1⟩ := st1.out.step0 f3.out o3.out
      obtain ⟨A0', c0', rfl⟩ := own_form o3.out
      obtain ⟨d0', d1', e0', e1'⟩ := st2.out.cells
      have hu3 := lt_of_block st2.out.top
      clear st1 o3 f3 h3
      generalize hW : w3.setCell ⟨w.heap.size, 0, none⟩ (.slice A0' (k + 1) c0') = W at *
      have HW := Lib.hid hW
      have hszW := st2.out.fr.size
      have st3 := Lib.hid (st2.out.alloc (.cells #[.slice none 0 0] 54))
      clear hW
      go_wp2_with (first
        | (with_reducible refine wpList_app (o := ⟨some 27, _, _, _, _, _⟩) rfl (.tmp 25) (.tmp 26) 39 rfl 54 #[.slice none 0 0] 1 24 Try.underlying39 row_info rfl (by omega) (w.heap.size + 1) (.slice A1 k c1) k (List.replicate k (.slice none 0 0)) rfl st3.out.o1 ⟨W.heap.size, 0, none⟩ 1 1 [.slice none 0 0] rfl rfl (new_one W _ _) (by simp [Value.oneCell']) (by omega) (by omega) (by simp; omega) ?_)
        | (rw [HW.out]))
      intro v5 w5 o5 f5 h5
      obtain ⟨st6, g2, g3⟩ := st3.out.step1 f5.out o5.out
      obtain ⟨A1', c1', rfl⟩ := own_form o5.out
      clear st3 o5 f5 h5
      go_wp2_with fail
      go_roundw
      case rel => exact ⟨k + 1, _, _, by omega, by go_num, st6⟩
      case measure => simp [intOf]; omega
    · have e : k = n := by omega
      subst e
      obtain ⟨K, r, hK⟩ := st.out.done h1 h2
      have R := Lib.hid r
      have HK := Lib.hid hK
      have F := Lib.hid st.out.fr
      clear r hK
      go_wp2_with fail
      go_ret
      exact ⟨_, K, rfl, R, F, HK⟩
end Go.Proofs.Ytamcnieneelmmaa
