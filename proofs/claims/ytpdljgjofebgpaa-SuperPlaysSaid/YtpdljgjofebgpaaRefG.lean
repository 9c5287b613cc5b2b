/-
  The document's own device: NewDev.
-/
import Derived.Test.YtpdljgjofebgpaaRefF
namespace Go.Proofs.Ytpdljgjofebgpaa
open Go.RowKit

theorem page_info : (Try.prog.info? 148).map (fun i => (i.zero.map Value.cells, i.size, i.bytes)) = some (some #[.int .i64 0, .string ⟨#[]⟩], 2, 24) := by kernel_rfl

theorem run_makeN (t e : TypeId) (z : Array Value) (size bytes : Nat) (h1 : Try.prog.underlying t = some (.slice e)) (hz : (Try.prog.info? e).map (fun i => (i.zero.map Value.cells, i.size, i.bytes)) = some (some z, size, bytes)) {n : Nat} (b2 : bytes * n ≤ 281474976710656) (b3 : n ≤ 9223372036854775807) (w : World) :
    (Instr.makeSlice t (.int .i64 n) (.int .i64 n)).run Try.prog w = .ok (.slice (some ⟨w.heap.size, 0, none⟩) n n) (w.alloc (.cells (madeCells z (n * size)) e)) := by
  cases hq : Try.prog.info? e with
  | none => simp [hq] at hz
  | some i =>
    simp only [hq, Option.map_some, Option.some.injEq, Prod.mk.injEq] at hz
    obtain ⟨hz1, hz2, hz3⟩ := hz
    cases hzz : i.zero with
    | none => simp [hzz] at hz1
    | some zv =>
      have hzc : zv.cells = z := by simpa [hzz] using hz1
      have hb : (i.bytes : Int) * (n : Int) ≤ 281474976710656 := by rw [hz3, ← Int.natCast_mul]; omega
      have hr := run_make (P := Try.prog) w t e i zv h1 hq hzz .i64 .i64 (n : Int) (n : Int) (by omega) (Int.le_refl _) hb (by omega)
      simp only [Int.toNat_natCast, hzc, hz2] at hr
      exact hr

theorem alloc3 (w0 : World) (o1 o2 o3 : Obj) : (((w0.alloc o1).alloc o2).alloc o3).heap[w0.heap.size]? = some o1 ∧ (((w0.alloc o1).alloc o2).alloc o3).heap[w0.heap.size + 1]? = some o2 ∧ (((w0.alloc o1).alloc o2).alloc o3).heap[w0.heap.size + 1 + 1]? = some o3 ∧ Fr Nob w0 (((w0.alloc o1).alloc o2).alloc o3) ∧ (((w0.alloc o1).alloc o2).alloc o3).heap.size = w0.heap.size + 1 + 1 + 1 := by
  have f2 := (Fr.refl Nob (w0.alloc o1)).alloc o2
  have f3 := (Fr.refl Nob ((w0.alloc o1).alloc o2)).alloc o3
  have s1 : (w0.alloc o1).heap.size = w0.heap.size + 1 := by simp
  have s2 : ((w0.alloc o1).alloc o2).heap.size = w0.heap.size + 1 + 1 := by simp
  refine ⟨f3.heap (f2.heap (heap_alloc_new w0 o1) fun h => h) fun h => h, ?_, ?_, (((Fr.refl Nob w0).alloc o1).alloc o2).alloc o3, by simp⟩
  · have h := f3.heap (heap_alloc_new (w0.alloc o1) o2) fun h => h
    rw [s1] at h
    exact h
  · have h := heap_alloc_new ((w0.alloc o1).alloc o2) o3
    rw [s2] at h
    exact h
theorem blank_pages (n : Nat) : madeCells #[.int .i64 0, .string ⟨#[]⟩] (n * 2) = (pgsV (List.replicate n .blank)).toArray := by
  unfold madeCells
  apply Array.ext
  · simp [pgsV_len]
  · intro i h1 h2
    have hi : i < n * 2 := by simpa using h1
    have hp := pgsV_at (List.replicate n .blank) (i / 2) (i % 2) (by rw [List.length_replicate]; omega) (by omega)
    rw [show i / 2 * 2 + i % 2 = i by omega] at hp
    have hg : (List.replicate n Pg.blank).getD (i / 2) .blank = .blank := by
      rw [List.getD_eq_getElem?_getD, List.getElem?_replicate, if_pos (by omega)]
      rfl
    rw [hg] at hp
    show _ = (pgsV (List.replicate n Pg.blank))[i]'(by simpa using h2)
    have := List.getElem?_eq_some_iff.1 (hp.trans (show (pgV .blank)[i % 2]? = some ((pgV .blank)[i % 2]'(by show i % 2 < 2; omega)) from List.getElem?_eq_getElem _))
    obtain ⟨_, h3⟩ := this
    rw [h3]
    rcases (by omega : i % 2 = 0 ∨ i % 2 = 1) with e | e
    · simp [e, pgV, kindP]
    · simp [e, pgV, txtP, strB]
theorem new_lists (n : Nat) : (Dv.new n).lasts = List.replicate n .blank ∧ (Dv.new n).nows = List.replicate n .blank ∧ (Dv.new n).waitB = List.replicate n false := by
  unfold Dv.lasts Dv.nows Dv.waitB Dv.new
  simp [Pc.now]

theorem newDev_fin {w W : World} {n gl gn gw : Nat} (h0 : 1 ≤ n) (h1 : n ≤ 4096) (f : Fr Nob w W) (hl : W.heap[gl]? = some (.cells (madeCells #[.int .i64 0, .string ⟨#[]⟩] (n * 2)) 148 (0, 0))) (hn : W.heap[gn]? = some (.cells (madeCells #[.int .i64 0, .string ⟨#[]⟩] (n * 2)) 148 (0, 0)))
    (hw : W.heap[gw]? = some (.cells (madeCells #[.bool false] (n * 1)) 4 (0, 0))) (ne : gl ≠ gn) (bl : w.heap.size ≤ gl) (bn : w.heap.size ≤ gn) (bw : w.heap.size ≤ gw) :
    ∃ M, RefAt (W.alloc (.cells #[.slice (some ⟨gl, 0, none⟩) n n, .slice (some ⟨gn, 0, none⟩) n n, .slice (some ⟨gw, 0, none⟩) n n, .bool false, .int .i64 0, .int .i64 0, .int .i64 0, .int .i64 0, .int .i64 0, .int .i64 0] 126)) W.heap.size M (Dv.new n) ∧
      Fr Nob w (W.alloc (.cells #[.slice (some ⟨gl, 0, none⟩) n n, .slice (some ⟨gn, 0, none⟩) n n, .slice (some ⟨gw, 0, none⟩) n n, .bool false, .int .i64 0, .int .i64 0, .int .i64 0, .int .i64 0, .int .i64 0, .int .i64 0] 126)) ∧ ∀ k, M k → w.heap.size ≤ k := by
  obtain ⟨e1, e2, e3⟩ := new_lists n
  have hlen : (Dv.new n).pg.length = n := by unfold Dv.new; simp
  have fa := (Fr.refl Nob W).alloc (.cells #[.slice (some ⟨gl, 0, none⟩) n n, .slice (some ⟨gn, 0, none⟩) n n, .slice (some ⟨gw, 0, none⟩) n n, .bool false, .int .i64 0, .int .i64 0, .int .i64 0, .int .i64 0, .int .i64 0, .int .i64 0] 126)
  have ht := heap_alloc_new W (.cells #[.slice (some ⟨gl, 0, none⟩) n n, .slice (some ⟨gn, 0, none⟩) n n, .slice (some ⟨gw, 0, none⟩) n n, .bool false, .int .i64 0, .int .i64 0, .int .i64 0, .int .i64 0, .int .i64 0, .int .i64 0] 126)
  have hmx : n ≤ maxLen := by unfold maxLen; omega
  refine ⟨ROwn W.heap.size gl gn gw, ⟨gl, n, gn, n, gw, n, ⟨?_, ?_, ?_, ?_, ne, Int.le_refl 0, by show (0 : Int) ≤ _; omega, by rw [hlen]; exact h0, by rw [hlen]; exact h1⟩, fun k => Iff.rfl⟩, f.trans' fa, fun k hk => ?_⟩
  · rw [hlen]
    exact ht
  · rw [hlen, e1]
    exact ⟨by rw [pgsV_len]; simp, .inr ⟨gl, n, _, rfl, Nat.zero_le _, fa.heap hl fun h => h, Nat.le_refl _, hmx, by rw [blank_pages]; simp [pgsV_len], by rw [blank_pages]; exact List.take_of_length_le (by simp [pgsV_len])⟩⟩
  · rw [hlen, e2]
    exact ⟨by rw [pgsV_len]; simp, .inr ⟨gn, n, _, rfl, Nat.zero_le _, fa.heap hn fun h => h, Nat.le_refl _, hmx, by rw [blank_pages]; simp [pgsV_len], by rw [blank_pages]; exact List.take_of_length_le (by simp [pgsV_len])⟩⟩
  · rw [hlen, e3, bools_new]
    have hm : madeCells #[.bool false] (n * 1) = (List.replicate n (Value.bool false)).toArray := by
      rw [Nat.mul_one]
      unfold madeCells
      apply Array.ext
      · simp
      · intro i h1 h2
        simp [Nat.mod_one]
    exact ⟨by simp, .inr ⟨gw, n, _, rfl, Nat.zero_le _, fa.heap hw fun h => h, Nat.le_refl _, hmx, by rw [hm]; simp, by rw [hm]; simp⟩⟩
  · have := f.size
    rcases hk with rfl | rfl | rfl | rfl <;> assumption

set_option maxRecDepth 100000 in
theorem refNew_eq {w : World} {n : Nat} (h0 : 1 ≤ n) (h1 : n ≤ 4096) :
    Calls Try.prog 40 #[.int .i64 n] w fun e w' => ∃ u M, e = .returned (.pointer (some ⟨u, 0, none⟩)) ∧ RefAt w' u M (Dv.new n) ∧ Fr Nob w w' ∧ ∀ k, M k → w.heap.size ≤ k := by
  have mp : ∀ w, _ := run_makeN 122 148 _ 2 24 Try.underlying122 page_info (n := n) (by omega) (by omega)
  have mb : ∀ w, _ := run_makeN 123 4 _ 1 1 Try.underlying123 bool_info (n := n) (by omega) (by omega)
  have FIN : Hid (∀ (W : World) (gl gn gw : Nat), Fr Nob w W → W.heap[gl]? = some (.cells (madeCells #[.int .i64 0, .string ⟨#[]⟩] (n * 2)) 148 (0, 0)) → W.heap[gn]? = some (.cells (madeCells #[.int .i64 0, .string ⟨#[]⟩] (n * 2)) 148 (0, 0)) → W.heap[gw]? = some (.cells (madeCells #[.bool false] (n * 1)) 4 (0, 0)) → gl ≠ gn → w.heap.size ≤ gl → w.heap.size ≤ gn → w.heap.size ≤ gw → ∃ M, RefAt (W.alloc (.cells #[.slice (some ⟨gl, 0, none⟩) n n, .slice (some ⟨gn, 0, none⟩) n n, .slice (some ⟨gw, 0, none⟩) n n, .bool false, .int .i64 0, .int .i64 0, .int .i64 0, .int .i64 0, .int .i64 0, .int .i64 0] 126)) W.heap.size M (Dv.new n) ∧
      Fr Nob w (W.alloc (.cells #[.slice (some ⟨gl, 0, none⟩) n n, .slice (some ⟨gn, 0, none⟩) n n, .slice (some ⟨gw, 0, none⟩) n n, .bool false, .int .i64 0, .int .i64 0, .int .i64 0, .int .i64 0, .int .i64 0, .int .i64 0] 126)) ∧ ∀ k, M k → w.heap.size ≤ k) := Lib.hid fun W gl gn gw f a b c d e1 e2 e3 => newDev_fin h0 h1 f a b c d e1 e2 e3
  generalize madeCells #[.int .i64 0, .string ⟨#[]⟩] (n * 2) = cp at *
  generalize madeCells #[.bool false] (n * 1) = cb at *
  clear h0 h1
  go_enter Try.func40, Try.ntmps40
  go_wp2_with fail
  go_region
  all_goals
    go_wp2_with fail
    go_ret
    first
    | (obtain ⟨a0, a1, a2, f, sz⟩ := alloc3 w (.cells cp 148) (.cells cp 148) (.cells cb 4)
       obtain ⟨M, r, f', hk⟩ := FIN.out _ w.heap.size (w.heap.size + 1) (w.heap.size + 1 + 1) f a0 a1 a2 (by omega) (by omega) (by omega) (by omega)
       rw [sz] at r
       exact ⟨_, M, rfl, r.keep ((Fr.refl Nob _).drew) (fun _ _ h => h), f'.drew, hk⟩)
    | (obtain ⟨a0, a1, a2, f, sz⟩ := alloc3 w (.cells cp 148) (.cells cp 148) (.cells cb 4)
       obtain ⟨M, r, f', hk⟩ := FIN.out _ (w.heap.size + 1) w.heap.size (w.heap.size + 1 + 1) f a1 a0 a2 (by omega) (by omega) (by omega) (by omega)
       rw [sz] at r
       exact ⟨_, M, rfl, r.keep ((Fr.refl Nob _).drew) (fun _ _ h => h), f'.drew, hk⟩)
    | (obtain ⟨a0, a1, a2, f, sz⟩ := alloc3 w (.cells cp 148) (.cells cb 4) (.cells cp 148)
       obtain ⟨M, r, f', hk⟩ := FIN.out _ w.heap.size (w.heap.size + 1 + 1) (w.heap.size + 1) f a0 a2 a1 (by omega) (by omega) (by omega) (by omega)
       rw [sz] at r
       exact ⟨_, M, rfl, r.keep ((Fr.refl Nob _).drew) (fun _ _ h => h), f'.drew, hk⟩)
    | (obtain ⟨a0, a1, a2, f, sz⟩ := alloc3 w (.cells cp 148) (.cells cb 4) (.cells cp 148)
       obtain ⟨M, r, f', hk⟩ := FIN.out _ (w.heap.size + 1 + 1) w.heap.size (w.heap.size + 1) f a2 a0 a1 (by omega) (by omega) (by omega) (by omega)
       rw [sz] at r
       exact ⟨_, M, rfl, r.keep ((Fr.refl Nob _).drew) (fun _ _ h => h), f'.drew, hk⟩)
    | (obtain ⟨a0, a1, a2, f, sz⟩ := alloc3 w (.cells cb 4) (.cells cp 148) (.cells cp 148)
       obtain ⟨M, r, f', hk⟩ := FIN.out _ (w.heap.size + 1) (w.heap.size + 1 + 1) w.heap.size f a1 a2 a0 (by omega) (by omega) (by omega) (by omega)
       rw [sz] at r
       exact ⟨_, M, rfl, r.keep ((Fr.refl Nob _).drew) (fun _ _ h => h), f'.drew, hk⟩)
    | (obtain ⟨a0, a1, a2, f, sz⟩ := alloc3 w (.cells cb 4) (.cells cp 148) (.cells cp 148)
       obtain ⟨M, r, f', hk⟩ := FIN.out _ (w.heap.size + 1 + 1) (w.heap.size + 1) w.heap.size f a2 a1 a0 (by omega) (by omega) (by omega) (by omega)
       rw [sz] at r
       exact ⟨_, M, rfl, r.keep ((Fr.refl Nob _).drew) (fun _ _ h => h), f'.drew, hk⟩)

end Go.Proofs.Ytpdljgjofebgpaa
