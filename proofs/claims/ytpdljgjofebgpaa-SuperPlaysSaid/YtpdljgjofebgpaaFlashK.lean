/-
  flash: Copy, Stat.
-/
import Derived.Test.YtpdljgjofebgpaaFlashS
namespace Go.Proofs.Ytpdljgjofebgpaa
open Go.RowKit Go.Shelf

theorem clone_ptrs {w : World} {g cap n : Nat} {vals : List Value} (h : w.ownsRow 0 112 1 (.slice (some ⟨g, 0, none⟩) n cap) n vals) (hn : n ≤ 4096) (h1 : ∀ u ∈ vals, u.oneCell' = true) :
    Calls Try.prog 75 #[.slice (some ⟨g, 0, none⟩) n cap] w fun e w' => ∃ v, e = .returned v ∧ w'.ownsRow w.heap.size 112 1 v n vals ∧ Fr Nob w w' := by
  have hq : ∀ (w : World) (a : Option Addr) (n c n' c' : Nat), (binOp .eql 96 (.slice a n c) (.slice none n' c')).run Try.prog w = .ok (.bool a.isNone) w := fun w a n c n' c' => Lib.run_eql_slice_nil w _ _ a n c n' c' Try.underlying96
  have hl : vals.length = n * 1 := h.1
  have own := Lib.hid (World.ownsRow_made w #[] 0 (Nat.le_refl _) (Nat.zero_le _) rfl : (w.alloc (.cells #[] 112)).ownsRow w.heap.size 112 1 (.slice (some ⟨w.heap.size, 0, none⟩) 0 0) 0 [])
  have hnews : ∀ j u, vals[j]? = some u → (w.alloc (.cells #[] 112)).cell? ((⟨g, 0, none⟩ : Addr).add j) = some u := fun j u hu => ((Fr.refl Nob w).alloc _).cell (h.cells (g := g) rfl j u hu) fun h => h
  have NEWS := Lib.hid hnews
  have HL := Lib.hid hl
  clear h hnews hl
  go_enter Try.func75, Try.ntmps75
  go_wp2_with (with_reducible refine wpList_app rfl (.tmp 5) (.tmp 6) 96 rfl 112 #[.pointer none] 1 8 Try.underlying96 ptr_info rfl (by omega) w.heap.size (.slice (some ⟨w.heap.size, 0, none⟩) 0 0) 0 [] rfl own.out ⟨g, 0, none⟩ n cap vals rfl HL.out NEWS.out h1 (by omega) (by omega) (by simp) ?_)
  intro v w3 o3 f3 h3
  go_wp2_with fail
  go_ret
  refine ⟨v, rfl, ?_, ?_⟩
  · exact o3.out
  · exact ((Fr.refl Nob w).alloc (.cells #[] 112)).trans f3.out fun k hk e => by
      simp [Value.ownBlock] at e
      omega

theorem row_some {w : World} {base : Nat} {e : TypeId} {size : Nat} {v : Value} {n : Nat} {xs : List Value} (h : w.ownsRow base e size v n xs) (hn : 1 ≤ n) : ∃ g cap, v = .slice (some ⟨g, 0, none⟩) n cap := by
  rcases h.2 with ⟨_, h⟩ | ⟨g, cap, _, h, _⟩
  · omega
  · exact ⟨g, cap, h⟩

theorem clone_map {w : World} {m : Nat} {L : List (Int × Value)} (h : MapIs (Value.int .i64) id w m L) :
    Calls Try.prog 76 #[.map (some m)] w fun e w' => e = .returned (.map (some w.heap.size)) ∧ MapIs (Value.int .i64) id w' w.heap.size L ∧ Fr Nob w w' := by
  obtain ⟨es, clock, h1, h2⟩ := h
  refine (AnyW.maps_Clone mclone m es clock w h1).mono ?_
  rintro e w' ⟨he, rfl⟩
  exact ⟨he, ⟨es, clock, heap_alloc_new w _, h2⟩, (Fr.refl Nob w).alloc _⟩

theorem row_base0 {w : World} {base : Nat} {e : TypeId} {size : Nat} {v : Value} {n : Nat} {xs : List Value} (h : w.ownsRow base e size v n xs) : w.ownsRow 0 e size v n xs := by
  obtain ⟨h0, h | ⟨g, cap, cur, h1, h3, h2⟩⟩ := h
  · exact ⟨h0, .inl h⟩
  · exact ⟨h0, .inr ⟨g, cap, cur, h1, Nat.zero_le _, h2⟩⟩

def CopyTo (w : World) (q : Nat) (K P : Nat → Prop) (D : Dv) (e : Ending) (w' : World) : Prop :=
  ∃ q' K', e = .returned (.pointer (some ⟨q', 0, none⟩)) ∧ DevAt w' q' K' P D ∧ DevAt w' q K P D ∧ Fr Nob w w' ∧ ∀ k, K' k → w.heap.size ≤ k

set_option maxRecDepth 100000 in
set_option maxHeartbeats 1000000 in
theorem copy_eq {w : World} {q : Nat} {K P : Nat → Prop} {D : Dv} (s : DevAt w q K P D) : Calls Try.prog 35 #[.pointer (some ⟨q, 0, none⟩)] w (CopyTo w q K P D) := by
  have SS := Lib.hid s
  obtain ⟨g, cap, m, vals, L, s, hK, hl⟩ := s
  have S := Lib.hid s
  have HK := Lib.hid hK
  have HL := Lib.hid hl
  obtain ⟨c0, c1, c2, c3, c4, c5, c6, c7, c8, _⟩ := s.cells
  clear s hK hl
  go_enter Try.func35, Try.ntmps35
  go_wp2_with fail
  have hnew := heap_alloc_new w (.cells #[.slice (some ⟨g, 0, none⟩) D.pg.length cap, .map (some m), .bool D.off, .int .i64 D.arm, .int .i64 D.loss, .int .i64 D.n0, .int .i64 D.n1, .int .i64 D.n2, .int .i64 D.n3] 101)
  have f0 : Fr Nob w (w.alloc (.cells #[.slice (some ⟨g, 0, none⟩) D.pg.length cap, .map (some m), .bool D.off, .int .i64 D.arm, .int .i64 D.loss, .int .i64 D.n0, .int .i64 D.n1, .int .i64 D.n2, .int .i64 D.n3] 101)) := (Fr.refl Nob w).alloc _
  have hs0 : (w.alloc (.cells #[.slice (some ⟨g, 0, none⟩) D.pg.length cap, .map (some m), .bool D.off, .int .i64 D.arm, .int .i64 D.loss, .int .i64 D.n0, .int .i64 D.n1, .int .i64 D.n2, .int .i64 D.n3] 101)).heap.size = w.heap.size + 1 := by simp
  generalize w.alloc (.cells #[.slice (some ⟨g, 0, none⟩) D.pg.length cap, .map (some m), .bool D.off, .int .i64 D.arm, .int .i64 D.loss, .int .i64 D.n0, .int .i64 D.n1, .int .i64 D.n2, .int .i64 D.n3] 101) = W0 at *
  obtain ⟨Q, hQ⟩ : ∃ Q, Q = w.heap.size := ⟨_, rfl⟩
  rw [← hQ] at hnew hs0 ⊢
  have c0 := f0.cell c0 fun h => h
  have c1 := f0.cell c1 fun h => h
  have S0 := Lib.hid (S.out.keep f0 (fun _ _ h => h) (fun _ _ h => h))
  have F0 := Lib.hid f0
  have HQ := Lib.hid hQ
  have HS0 := Lib.hid hs0
  have NEW := Lib.hid hnew
  have q0 := cell_of_row W0 Q 0 _ _ (0, 0) hnew
  have q1 := cell_of_row W0 Q 1 _ _ (0, 0) hnew
  have y0 := frozen_of_row W0 Q 0 _ _ hnew
  have y1 := frozen_of_row W0 Q 1 _ _ hnew
  have one : ∀ u ∈ vals, u.oneCell' = true := fun u hu => by
    obtain ⟨j, hj, rfl⟩ := List.getElem_of_mem hu
    have hj' : j < D.pg.length := by rw [← S.out.len]; exact hj
    obtain ⟨v, h1, h2⟩ := S.out.fl j _ (List.getElem?_eq_getElem hj')
    obtain ⟨a, rfl⟩ := h2.shape
    rw [List.getElem?_eq_getElem hj] at h1
    rw [Option.some.inj h1]
    rfl
  have ONE := Lib.hid one
  have hmost := S.out.most
  have hcl := Lib.hid (clone_ptrs (w := W0.drew) (S0.out.row) hmost one)
  clear hQ hs0 f0 hnew one
  go_region_with (first
    | (go_at_call 75; refine hcl.out.mono ?_; rintro e w1 ⟨v1, rfl, o1, f1⟩; obtain ⟨g2, cap2, rfl⟩ := row_some o1 S.out.low; have O1 := Lib.hid o1; have F1 := Lib.hid (f1.undrew); replace c1 := F1.out.cell c1 (fun h => h); replace q0 := F1.out.cell q0 (fun h => h); replace q1 := F1.out.cell q1 (fun h => h); replace y0 := (F1.out.frozen (p := ⟨Q, 0, none⟩) (lt_of_block NEW.out) (fun h => h)).trans y0; replace y1 := (F1.out.frozen (p := ⟨Q, 1, none⟩) (lt_of_block NEW.out) (fun h => h)).trans y1; clear o1 f1)
    | (go_at_call 76; refine (clone_map (S0.out.map.keep F1.out fun h => h)).mono ?_; rintro e w2 ⟨rfl, m2, f2⟩; have M2 := Lib.hid m2; have F2 := Lib.hid f2; replace q0 := F2.out.cell q0 (fun h => h); replace q1 := F2.out.cell q1 (fun h => h); replace y0 := (F2.out.frozen (p := ⟨Q, 0, none⟩) (Nat.lt_of_lt_of_le (lt_of_block NEW.out) F1.out.size) (fun h => h)).trans y0; replace y1 := (F2.out.frozen (p := ⟨Q, 1, none⟩) (Nat.lt_of_lt_of_le (lt_of_block NEW.out) F1.out.size) (fun h => h)).trans y1; clear m2 f2))
  all_goals
    go_wp2_with fail
    go_ret
    have hg2 := (O1.out.lt g2 rfl).1
    have hsz : (W0.drew).heap.size = Q + 1 := HS0.out
    rw [hsz] at hg2
    have hz1 := F1.out.size
    rw [HS0.out] at hz1
    have f12 : Fr Nob w w2 := (F0.out.trans' F1.out).trans' F2.out
    have fs : Fr (One Q) w2 ((w2.setCell ⟨Q, 0, none⟩ (.slice (some ⟨g2, 0, none⟩) D.pg.length cap2)).setCell ⟨Q, 1, none⟩ (.map (some w1.heap.size))) := ((Fr.refl (One Q) w2).set1 _).set1 _
    have fw : Fr Nob w ((w2.setCell ⟨Q, 0, none⟩ (.slice (some ⟨g2, 0, none⟩) D.pg.length cap2)).setCell ⟨Q, 1, none⟩ (.map (some w1.heap.size))) := f12.trans fs fun k hk h => by
      have h : k = Q := h
      rw [h, HQ.out] at hk
      exact absurd hk (Nat.lt_irrefl _)
    have htop := heap_setCell_same _ Q 1 _ _ (.map (some w1.heap.size)) (heap_setCell_same _ Q 0 _ _ (.slice (some ⟨g2, 0, none⟩) D.pg.length cap2) (F2.out.heap (F1.out.heap NEW.out fun h => h) fun h => h))
    have hrow := fs.ownsRow (F2.out.ownsRow O1.out fun _ _ h => h) fun k hk h => by
      have e1 : g2 = k := by simpa [Value.ownBlock] using hk
      have h : k = Q := h
      omega
    have hmap := M2.out.keep fs fun h => by
      have h : w1.heap.size = Q := h
      omega
    have s2 := S.out.keep fw (fun _ _ h => h) (fun _ _ h => h)
    refine ⟨Q, DOwn Q g2 w1.heap.size, rfl, ⟨g2, cap2, w1.heap.size, vals, L, ⟨htop, row_base0 hrow, hmap, s2.fl, s2.wt, s2.keys, s2.arm0, s2.arm1, s2.low, s2.most⟩, fun _ => Iff.rfl, fun k hk => ?_⟩, SS.out.nob fw, fw, fun k hk => ?_⟩
    · have h1 := (HL.out k hk).1
      refine ⟨Nat.lt_of_lt_of_le h1 fw.size, ?_⟩
      have := HQ.out
      rintro (h | h | h) <;> omega
    · have := HQ.out
      rcases hk with h | h | h <;> omega

end Go.Proofs.Ytpdljgjofebgpaa
