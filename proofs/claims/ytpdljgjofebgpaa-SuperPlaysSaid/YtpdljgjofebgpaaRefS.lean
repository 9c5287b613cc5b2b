/-
  cellaretlaw5: own; == of the reference's blocks; append onto a row of bytes. (Printed by gen/refs.py.)
-/
import Derived.Test.YtpdljgjofebgpaaRefQ
import Derived.Test.YtpdljgjofebgpaaRefB
import Derived.Test.YtpdljgjofebgpaaSupAw
import Derived.Test.YtpdljgjofebgpaaSupH
import Derived.Test.YtpdljgjofebgpaaAppN
namespace Go.Proofs.Ytpdljgjofebgpaa
open Go.RowKit

theorem blk_neqS (a : Blk) (w : World) : (binOp .neq 29 (.agg (blkV a)) (.agg (blkV a))).run Try.prog w = .ok (.bool false) w := by
  have h := blk_eql a a w
  rw [show decide (a = a) = true from decide_eq_true rfl, run_eql_struct] at h
  rw [run_neq_struct]
  generalize (Op.equalIn 10000 29 (.agg (blkV a)) (.agg (blkV a))).run Try.prog w = r at *
  cases r with
  | ok b w' =>
    simp [Result.andThen] at h ⊢
    obtain ⟨rfl, rfl⟩ := h
    exact ⟨rfl, rfl⟩
  | _ => simp [Result.andThen] at h

theorem blk4_eql (a b : Blk) (w : World) : (binOp .eql 37 (.agg (blkV a)) (.agg (blkV b))).run Try.prog w = .ok (.bool (decide (a = b))) w := by
  have hS : Try.prog.underlying 37 = some (.struct (Try.prog.fieldsOf 37)) := by kernel_rfl
  have hp : Try.prog.stoodInHeld 37 = false := by kernel_rfl
  have u27 := Try.underlying27
  have u3 := Try.underlying3
  have u4 := Try.underlying4
  have a27 := Try.isAgg27
  have a3 := Try.isAgg3
  have a4 := Try.isAgg4
  have z27 := Try.sizeOf27
  have z3 := Try.sizeOf3
  have z4 := Try.sizeOf4
  obtain ⟨x0, x1, x2, x3, x4, cl, im⟩ := a
  obtain ⟨y0, y1, y2, y3, y4, cm, jm⟩ := b
  rw [run_eql_struct, show (10000 : Nat) = 9999 + 1 from rfl, run_equalIn_agg w 9999 37 _ _ hS hp]
  simp only [blkV, Program.fieldsOf, Try.underlying37]
  go_simp
  by_cases h0 : x0 = y0 <;> by_cases h1 : x1 = y1 <;> by_cases h2 : x2 = y2 <;> by_cases h3 : x3 = y3 <;> by_cases h4 : x4 = y4 <;> by_cases h5 : cl = cm <;> by_cases h6 : im = jm <;> simp [h0, h1, h2, h3, h4, h5, h6] <;> omega
theorem blk4_neqS (a : Blk) (w : World) : (binOp .neq 37 (.agg (blkV a)) (.agg (blkV a))).run Try.prog w = .ok (.bool false) w := by
  have h := blk4_eql a a w
  rw [show decide (a = a) = true from decide_eq_true rfl, run_eql_struct] at h
  rw [run_neq_struct]
  generalize (Op.equalIn 10000 37 (.agg (blkV a)) (.agg (blkV a))).run Try.prog w = r at *
  cases r with
  | ok b w' =>
    simp [Result.andThen] at h ⊢
    obtain ⟨rfl, rfl⟩ := h
    exact ⟨rfl, rfl⟩
  | _ => simp [Result.andThen] at h

set_option maxRecDepth 100000 in
set_option maxHeartbeats 2000000 in
theorem own_eq {w : World} (b : Blk) :
    Calls Try.prog 30 #[.agg (blkV b)] w fun e w' => e = .returned (.agg (blkV b)) ∧ Fr Nob w w' := by
  obtain ⟨s0, s1, s2, s3, s4, cl, im, rfl⟩ := blk_cases b
  rw [blkV_mk]
  have h1 := heap_alloc_new w (.cells #[.int .u64 (s0 : Int), .int .u64 (s1 : Int), .int .u64 (s2 : Int), .int .u64 (s3 : Int), .int .u64 (s4 : Int), .bool cl, .int .i64 im] 29)
  have f1 : Fr Nob w (w.alloc (.cells #[.int .u64 (s0 : Int), .int .u64 (s1 : Int), .int .u64 (s2 : Int), .int .u64 (s3 : Int), .int .u64 (s4 : Int), .bool cl, .int .i64 im] 29)) := (Fr.refl Nob w).alloc _
  have y1 : (w.alloc (.cells #[.int .u64 (s0 : Int), .int .u64 (s1 : Int), .int .u64 (s2 : Int), .int .u64 (s3 : Int), .int .u64 (s4 : Int), .bool cl, .int .i64 im] 29)).heap.size = w.heap.size + 1 := by simp
  obtain ⟨B, hB⟩ : ∃ B, B = w.heap.size := ⟨_, rfl⟩
  rw [← hB] at h1 y1
  go_enter Try.func30, Try.ntmps30
  go_upto_region 1 with fail
  rw [← hB]
  have HB := Lib.hid hB
  clear hB
  generalize w.alloc (.cells #[.int .u64 (s0 : Int), .int .u64 (s1 : Int), .int .u64 (s2 : Int), .int .u64 (s3 : Int), .int .u64 (s4 : Int), .bool cl, .int .i64 im] 29) = w1 at *
  have h2 := heap_alloc_new w1 (.cells #[.int .u64 0, .int .u64 0, .int .u64 0, .int .u64 0, .int .u64 0, .bool false, .int .i64 0] 37)
  have f2 : Fr Nob w1 (w1.alloc (.cells #[.int .u64 0, .int .u64 0, .int .u64 0, .int .u64 0, .int .u64 0, .bool false, .int .i64 0] 37)) := (Fr.refl Nob w1).alloc _
  rw [y1] at h2
  have k1 := f2.heap h1 fun h => h
  generalize w1.alloc (.cells #[.int .u64 0, .int .u64 0, .int .u64 0, .int .u64 0, .int .u64 0, .bool false, .int .i64 0] 37) = w2 at *
  have c0 := cell_of_row w2 B 0 _ _ (0, 0) k1
  have c1 := cell_of_row w2 B 1 _ _ (0, 0) k1
  have c2 := cell_of_row w2 B 2 _ _ (0, 0) k1
  have c3 := cell_of_row w2 B 3 _ _ (0, 0) k1
  have c4 := cell_of_row w2 B 4 _ _ (0, 0) k1
  have c5 := cell_of_row w2 B 5 _ _ (0, 0) k1
  have c6 := cell_of_row w2 B 6 _ _ (0, 0) k1
  have e0 := cell_of_row w2 (B + 1) 0 _ _ (0, 0) h2
  have e1 := cell_of_row w2 (B + 1) 1 _ _ (0, 0) h2
  have e2 := cell_of_row w2 (B + 1) 2 _ _ (0, 0) h2
  have e3 := cell_of_row w2 (B + 1) 3 _ _ (0, 0) h2
  have e4 := cell_of_row w2 (B + 1) 4 _ _ (0, 0) h2
  have e5 := cell_of_row w2 (B + 1) 5 _ _ (0, 0) h2
  have e6 := cell_of_row w2 (B + 1) 6 _ _ (0, 0) h2
  have z0 := frozen_of_row w2 (B + 1) 0 _ _ h2
  have z1 := frozen_of_row w2 (B + 1) 1 _ _ h2
  have z2 := frozen_of_row w2 (B + 1) 2 _ _ h2
  have z3 := frozen_of_row w2 (B + 1) 3 _ _ h2
  have z4 := frozen_of_row w2 (B + 1) 4 _ _ h2
  have z5 := frozen_of_row w2 (B + 1) 5 _ _ h2
  have z6 := frozen_of_row w2 (B + 1) 6 _ _ h2
  have FR : Hid (∀ u0 u1 u2 u3 u4 u5 u6 : Value, Fr Nob w (((((((w2.setCell ⟨B + 1, 0, none⟩ u0).setCell ⟨B + 1, 1, none⟩ u1).setCell ⟨B + 1, 2, none⟩ u2).setCell ⟨B + 1, 3, none⟩ u3).setCell ⟨B + 1, 4, none⟩ u4).setCell ⟨B + 1, 5, none⟩ u5).setCell ⟨B + 1, 6, none⟩ u6)) := Lib.hid fun u0 u1 u2 u3 u4 u5 u6 =>
    (f1.trans' f2).trans (fr7 u0 u1 u2 u3 u4 u5 u6) fun k hk h => by
      have h : k = B + 1 := h
      have := HB.out
      omega
  clear h1 f1 y1 h2 f2 k1
  go_wp2_with fail
  refine bodyPost_ret (v := .agg #[.int .u64 (s0 : Int), .int .u64 (s1 : Int), .int .u64 (s2 : Int), .int .u64 (s3 : Int), .int .u64 (s4 : Int), .bool cl, .int .i64 im]) (by simp [results, Try.results30, go_sem, e0, e1, e2, e3, e4, e5, e6]) rfl ⟨rfl, ?_⟩
  exact FR.out _ _ _ _ _ _ _

/-- append of bytes onto a row of the call's own, whatever comes. -/
theorem run_app_rowC {w : World} {ty : TypeId} {B g m cap : Nat} {xs : List UInt8} (hown : w.ownsRow B 5 1 (.slice (some ⟨g, 0, none⟩) m cap) m (bytesV xs)) (hx : xs.length = m) {A : Option Addr} {n c : Nat} {bs : List UInt8} (hr : RdB w (.slice A n c) bs) (hn : m + n ≤ 140737488355328) (hB : B ≤ w.heap.size) :
    ∃ g' c' w', (Builtin.append_ #[34, 34] ty #[.slice (some ⟨g, 0, none⟩) m cap, .slice A n c]).run Try.prog w = .ok (.slice (some ⟨g', 0, none⟩) (m + n) c') w' ∧ w'.ownsRow B 5 1 (.slice (some ⟨g', 0, none⟩) (m + n) c') (m + n) (bytesV (xs ++ bs)) ∧ Fr (One g) w w' := by
  obtain ⟨i, zv, hi, hz, hzc, hsz, hby⟩ : ∃ i zv, Try.prog.info? 5 = some i ∧ i.zero = some zv ∧ zv.cells = #[.int .u8 0] ∧ i.size = 1 ∧ i.bytes = 1 := by
    have hu := u8_info'
    cases hq : Try.prog.info? 5 with
    | none => simp [hq] at hu
    | some i =>
      simp only [hq, Option.map_some, Option.some.injEq, Prod.mk.injEq] at hu
      obtain ⟨hz1, hz2, hz3⟩ := hu
      cases hzz : i.zero with
      | none => simp [hzz] at hz1
      | some zv => exact ⟨i, zv, rfl, hzz, by simpa [hzz] using hz1, hz2, hz3⟩
  obtain ⟨a', c', he, hc⟩ := hr
  have he' := he
  simp only [Value.slice.injEq] at he'
  obtain ⟨rfl, rfl, rfl⟩ := he'
  by_cases h0 : 0 < bs.length
  · obtain ⟨ad, rfl, hnews⟩ := RdB.news (a := A) (cap := c) (bs := bs) ⟨A, c, rfl, hc⟩ h0
    obtain ⟨v', w', hrun, h2, h3, _, h5⟩ := run_append_own_at (P := Try.prog) w B 34 ty 5 i zv 1 1 Try.underlying34 hi hz hsz hby (by rw [hzc]; rfl) (by omega) _ m (bytesV xs) hown ad bs.length c (bytesV bs) (by rw [bytesV_len]; omega) hnews (bytesV_one bs) (by simp only [maxLen]; omega) (by omega) hB
    rw [← bytesV_append] at h2
    have hrow : w'.ownsRow B 5 1 v' (m + bs.length) (bytesV (xs ++ bs)) := h2
    obtain ⟨g', c', rfl⟩ := row_some hrow (by omega)
    exact ⟨g', c', w', hrun, hrow, ⟨h3.os, h3.tape, h3.output, h3.size, fun k hk hn => h3.block k hk (fun e => hn (own_block e.symm).symm)⟩⟩
  · have hb : bs = [] := List.length_eq_zero_iff.1 (by omega)
    subst hb
    obtain ⟨cur, _, hmc, _⟩ := row_cur hown
    refine ⟨g, cap, w, ?_, by rw [List.append_nil]; exact hown, Fr.refl _ _⟩
    cases A <;> simp [Builtin.append_, Builtin.lenOf, Builtin.firstCells, run_underlying Try.underlying34, sizeOf, typeInfo, hi, storeCells, loadCells, loadCellsFrom, hmc]
theorem wpList_app_rowC {ops : Array Oper} {rest : List Oper} {o : Oper} {a : Act} {w : World} {Q : Exit → Act → World → Prop} (hgd : o.guard = none) (s x : Operand)
    (ho : o.op = .call { callee := .builtin .append, args := #[s, x], argTypes := #[34, 34] }) (B g m cap : Nat) (xs : List UInt8) (hs : a.eval s = .slice (some ⟨g, 0, none⟩) m cap) (hown : w.ownsRow B 5 1 (.slice (some ⟨g, 0, none⟩) m cap) m (bytesV xs)) (hxl : xs.length = m)
    (A : Option Addr) (n c : Nat) (bs : List UInt8) (hx : a.eval x = .slice A n c) (hr : RdB w (.slice A n c) bs) (hn : m + n ≤ 140737488355328) (hB : B ≤ w.heap.size)
    (h : ∀ g' c' w', Hid (w'.ownsRow B 5 1 (.slice (some ⟨g', 0, none⟩) (m + n) c') (m + n) (bytesV (xs ++ bs))) → Hid (Fr (One g) w w') → wpList Try.prog ops Q rest (a.put o.dst (.slice (some ⟨g', 0, none⟩) (m + n) c')) w') : wpList Try.prog ops Q (o :: rest) a w := by
  obtain ⟨g', c', w', hrun, h1, h2⟩ := run_app_rowC (ty := o.type) hown hxl hr hn hB
  refine wpList_plain hgd fun K hK => ?_
  unfold Oper.wp execOp
  simp only [ho, resolve, invoke, builtin, Sem.run_bind, Sem.run_pure, Result.andThen_ok, List.map_toArray, List.map_cons, List.map_nil, hs, hx, hrun]
  exact hK _ _ (h g' c' w' (Lib.hid h1) (Lib.hid h2))

end Go.Proofs.Ytpdljgjofebgpaa
