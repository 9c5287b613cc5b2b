/-
  dram: rows of items; the law's without.
-/
import Derived.Test.YtpbbokpmlemboaaDrIn
namespace Go.Proofs.Ytpbbokpmlemboaa
open Go.RowKit Sl

/-- The cells of a list of items. -/
def itsV : List It → List Value
  | [] => []
  | z :: l => [.string z.key, .string z.val, .int .u32 z.flags, .int .i64 z.exp, .int .u64 z.ver] ++ itsV l
theorem itsV_len : ∀ l : List It, (itsV l).length = l.length * 5
  | [] => rfl
  | o :: l => by simp [itsV, itsV_len l]; omega
theorem itsV_app : ∀ l m : List It, itsV (l ++ m) = itsV l ++ itsV m
  | [], m => rfl
  | o :: l, m => by simp [itsV, itsV_app l m]
theorem itsV_at : ∀ (l : List It) (j : Nat) (z : It), l[j]? = some z → (itsV l)[j * 5]? = some (.string z.key) ∧ (itsV l)[j * 5 + 1]? = some (.string z.val) ∧ (itsV l)[j * 5 + 2]? = some (.int .u32 z.flags) ∧ (itsV l)[j * 5 + 3]? = some (.int .i64 z.exp) ∧ (itsV l)[j * 5 + 4]? = some (.int .u64 z.ver)
  | [], j, z, h => by cases h
  | x :: l, 0, z, h => by
    have : x = z := by simpa using h
    subst this
    exact ⟨rfl, rfl, rfl, rfl, rfl⟩
  | x :: l, j + 1, z, h => by
    have := itsV_at l j z (by simpa using h)
    rw [show (j + 1) * 5 = j * 5 + 5 by omega]
    simpa [itsV] using this
theorem item_info : (Try.prog.info? 33).map (fun i => (i.zero.map Value.cells, i.size, i.bytes)) = some (some zeroJ, 5, 56) := by kernel_rfl

theorem row_it {w : World} {base cap n : Nat} {A : Option Addr} {xs : List It} (h : w.ownsRow base 33 5 (.slice A n cap) n (itsV xs)) {j : Nat} {z : It} (hz : xs[j]? = some z) :
    ∃ g, A = some ⟨g, 0, none⟩ ∧ w.cell? ⟨g, j * 5, none⟩ = some (.string z.key) ∧ w.cell? ⟨g, j * 5 + 1, none⟩ = some (.string z.val) ∧ w.cell? ⟨g, j * 5 + 2, none⟩ = some (.int .u32 z.flags) ∧ w.cell? ⟨g, j * 5 + 3, none⟩ = some (.int .i64 z.exp) ∧ w.cell? ⟨g, j * 5 + 4, none⟩ = some (.int .u64 z.ver) := by
  have h0 := h
  obtain ⟨a0, a1, a2, a3, a4⟩ := itsV_at xs j z hz
  rcases h.2 with ⟨_, hn⟩ | ⟨g, c, cur, e, _⟩
  · have := h.1
    rw [hn, Nat.zero_mul] at this
    rw [itsV_len] at this
    have h2 := (List.getElem?_eq_some_iff.1 hz).1
    omega
  · simp only [Value.slice.injEq] at e
    obtain ⟨rfl, _, _⟩ := e
    have g1 := fun j v hj => h0.cells (g := g) rfl j v hj
    have add : ∀ j, (⟨g, 0, none⟩ : Addr).add j = ⟨g, j, none⟩ := fun j => by rw [Addr.add_lit, Nat.zero_add]
    simp only [add] at g1
    exact ⟨g, rfl, g1 _ _ a0, g1 _ _ a1, g1 _ _ a2, g1 _ _ a3, g1 _ _ a4⟩
theorem row_lenI {w : World} {base : Nat} {v : Value} {n : Nat} {xs : List It} (h : w.ownsRow base 33 5 v n (itsV xs)) : xs.length = n := by
  have := h.1
  rw [itsV_len] at this
  omega

def wo (xs : List It) (k : ByteArray) : List It := xs.filter fun z => decide (z.key ≠ k)
theorem wo_snoc (xs : List It) (z : It) (k : ByteArray) : wo (xs ++ [z]) k = wo xs k ++ (if z.key = k then [] else [z]) := by
  unfold wo
  rw [List.filter_append, List.filter_cons]
  by_cases h : z.key = k
  · simp [h]
  · simp [h]
theorem take_it {xs : List It} {j : Nat} {z : It} (hz : xs[j]? = some z) : xs.take (j + 1) = xs.take j ++ [z] := by
  rw [List.take_add_one, hz]
  rfl

set_option maxHeartbeats 4000000 in
set_option maxRecDepth 100000 in
theorem without_eq {w : World} {base : Nat} {v : Value} {n : Nat} {xs : List It} (h : w.ownsRow base 33 5 v n (itsV xs)) (hn : n ≤ 100000) (k : ByteArray) :
    Calls Try.prog 17 #[v, .string k] w fun e w' => ∃ r, e = .returned r ∧ w'.ownsRow w.heap.size 33 5 r (wo xs k).length (itsV (wo xs k)) ∧ Fr Nob w w' := by
  have hl := row_lenI h
  obtain ⟨A, cap, rfl⟩ := own_form h
  have H := Lib.hid h
  clear h
  go_enter Try.func17, Try.ntmps17
  go_wp2_with fail
  go_loopw [5, 6] (fun r i wr => ∃ j : Nat, j ≤ n ∧ i = .int .i64 j ∧ Hid (wr.ownsRow w.heap.size 33 5 r (wo (xs.take j) k).length (itsV (wo (xs.take j) k))) ∧ Hid (Fr Nob w wr)) (fun _ i _ => n - (Lib.intOf i).toNat)
  case atStart => exact ⟨0, Nat.zero_le _, rfl, Lib.hid (World.ownsRow_nil _ _ _ _), Lib.hid (Fr.refl _ _)⟩
  case round =>
    obtain ⟨j, hj, rfl, R, F⟩ := hrel
    by_cases hlt : j < n
    · have hlt2 : (j : Int) < (n : Int) := by omega
      obtain ⟨z, hz⟩ : ∃ z, xs[j]? = some z := ⟨xs[j]'(by omega), List.getElem?_eq_getElem (by omega)⟩
      have TS := Lib.hid (take_it hz)
      have hw := F.out.ownsRow H.out fun _ _ h => h
      obtain ⟨g, rfl, p0, p1, p2, p3, p4⟩ := row_it hw hz
      obtain ⟨zk, zv, zf, ze, zr⟩ := z
      have hrl := row_lenI R.out
      have hwl : (wo (xs.take j) k).length ≤ 100000 := by
        unfold wo
        have := List.length_filter_le (fun z : It => decide (z.key ≠ k)) (xs.take j)
        rw [List.length_take] at this
        omega
      clear hw
      by_cases he : zk = k
      · subst he
        have R2 : Hid (wr.ownsRow w.heap.size 33 5 u5 (wo (xs.take (j + 1)) zk).length (itsV (wo (xs.take (j + 1)) zk))) := Lib.hid (by
          rw [TS.out, wo_snoc, if_pos rfl, List.append_nil]
          exact R.out)
        clear R p1 p2 p3 p4
        go_wp2_with fail
        go_roundw
        case rel => exact ⟨j + 1, by omega, by go_num, R2, F⟩
        case measure => simp [Lib.intOf]; omega
      · have hne := Tb.str_ne he
        have HE := Lib.hid he
        have fb := (Fr.refl Nob wr).alloc (.cells #[.string zk, .string zv, .int .u32 zf, .int .i64 ze, .int .u64 zr] 33)
        have h24 := heap_alloc_new wr (.cells #[.string zk, .string zv, .int .u32 zf, .int .i64 ze, .int .u64 zr] 33)
        have R5 := Lib.hid (fb.ownsRow R.out fun _ _ h => h)
        have NEWS : Hid (∀ (i : Nat) (u : Value), [Value.string zk, .string zv, .int .u32 zf, .int .i64 ze, .int .u64 zr][i]? = some u → (wr.alloc (.cells #[.string zk, .string zv, .int .u32 zf, .int .i64 ze, .int .u64 zr] 33)).cell? ((⟨wr.heap.size, 0, none⟩ : Addr).add i) = some u) := Lib.hid fun i u h => by
          rw [Addr.add_lit, Nat.zero_add, cell_of_row _ wr.heap.size i _ _ (0, 0) h24, ← Array.getElem?_toList]
          exact h
        have ONE : Hid (∀ u ∈ [Value.string zk, .string zv, .int .u32 zf, .int .i64 ze, .int .u64 zr], u.oneCell' = true) := Lib.hid fun u hu => by
          simp only [List.mem_cons, List.not_mem_nil, or_false] at hu
          rcases hu with rfl | rfl | rfl | rfl | rfl <;> rfl
        have hbase : w.heap.size ≤ (wr.alloc (.cells #[.string zk, .string zv, .int .u32 zf, .int .i64 ze, .int .u64 zr] 33)).heap.size := Nat.le_trans F.out.size fb.size
        have FB := Lib.hid fb
        clear fb h24 he
        go_wp2_with (with_reducible refine wpList_app (o := ⟨some 26, _, _, _, _, _⟩) rfl (.tmp 20) (.tmp 25) 47 rfl 33 zeroJ 5 56 Try.underlying47 item_info rfl (by omega) w.heap.size u5 _ _ rfl R5.out ⟨wr.heap.size, 0, none⟩ 1 1 [.string zk, .string zv, .int .u32 zf, .int .i64 ze, .int .u64 zr] rfl rfl NEWS.out ONE.out (by omega) (by omega) hbase ?_)
        intro r' w5 o6 f6 hor
        have F6 := Lib.hid ((F.out.trans' FB.out).trans f6.out fun i hi h => by have := (R.out.lt i h).1; omega)
        have R6 : Hid (w5.ownsRow w.heap.size 33 5 r' (wo (xs.take (j + 1)) k).length (itsV (wo (xs.take (j + 1)) k))) := Lib.hid (by
          rw [TS.out, wo_snoc, if_neg HE.out, itsV_app, List.length_append]
          exact o6.out)
        clear o6 f6 hor NEWS ONE hbase R5 R F FB p0 p1 p2 p3 p4
        go_wp2_with fail
        go_roundw
        case rel => exact ⟨j + 1, by omega, by go_num, R6, F6⟩
        case measure => simp [Lib.intOf]; omega
    · obtain rfl : j = n := by omega
      have R2 : Hid (wr.ownsRow w.heap.size 33 5 u5 (wo xs k).length (itsV (wo xs k))) := Lib.hid (by
        have := R.out
        rwa [List.take_of_length_le (by omega)] at this)
      go_wp2_with fail
      go_ret
      exact ⟨_, rfl, R2.out, F.out⟩
end Go.Proofs.Ytpbbokpmlemboaa
