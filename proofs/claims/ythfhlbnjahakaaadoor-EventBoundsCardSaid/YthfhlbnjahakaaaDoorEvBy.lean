/-
  Rows of bytes: made, turned into a text (out of XBytes).
-/
import Derived.Test.YthfhlbnjahakaaaDoorBase
import Derived.Laws.BytesArg
import Derived.Laws.IdiomStrings
namespace Go.Proofs.YthfhlbnjahakaaaDoor
open Go.RowKit

def bytesV (l : List UInt8) : List Value := l.map fun b => .int .u8 (b.toNat : Int)
theorem bytesV_len (l : List UInt8) : (bytesV l).length = l.length := by unfold bytesV; simp
theorem bytesV_one (l : List UInt8) : ∀ u ∈ bytesV l, u.oneCell' = true := by
  intro u hu
  obtain ⟨b, _, rfl⟩ := List.mem_map.1 hu
  rfl
theorem bytesV_append (l m : List UInt8) : bytesV (l ++ m) = bytesV l ++ bytesV m := by unfold bytesV; simp
theorem bytesV_take (l : List UInt8) (n : Nat) : (bytesV l).take n = bytesV (l.take n) := by unfold bytesV; simp
theorem bytesV_drop (l : List UInt8) (n : Nat) : (bytesV l).drop n = bytesV (l.drop n) := by unfold bytesV; simp
theorem bytesV_at {l : List UInt8} {j : Nat} (h : j < l.length) : (bytesV l)[j]? = some (.int .u8 ((l.getD j 0).toNat : Int)) := by
  unfold bytesV
  rw [List.getElem?_map, List.getD_eq_getElem?_getD, List.getElem?_eq_getElem h]
  rfl
theorem bytesV_some {l : List UInt8} {j : Nat} {u : Value} (h : (bytesV l)[j]? = some u) : j < l.length ∧ u = .int .u8 ((l.getD j 0).toNat : Int) := by
  have hj : j < l.length := by rw [← bytesV_len]; exact (List.getElem?_eq_some_iff.1 h).1
  rw [bytesV_at hj] at h
  exact ⟨hj, (Option.some.inj h).symm⟩
theorem bytesV_cell {w : World} {g : Nat} {l : List UInt8} {t : TypeId} {fr : Nat × Nat} (h : w.heap[g]? = some (.cells (bytesV l).toArray t fr)) {j : Nat} (hj : j < l.length) : w.cell? ⟨g, j, none⟩ = some (.int .u8 ((l.getD j 0).toNat : Int)) := by
  rw [cell_of_row w g j _ _ _ h]
  simpa using bytesV_at hj

theorem made_bytes (n : Nat) : madeCells #[.int .u8 0] n = (bytesV (List.replicate n 0)).toArray := by
  unfold madeCells bytesV
  apply Array.ext
  · simp
  · intro i h1 h2
    simp [Nat.mod_one]

/-- What is read of a []byte: these bytes. -/
def RdB (w : World) (v : Value) (bs : List UInt8) : Prop :=
  ∃ a cap, v = .slice a bs.length cap ∧ (0 < bs.length → ∃ g o, a = some ⟨g, o, none⟩ ∧ ∀ j, j < bs.length → w.cell? ⟨g, o + j, none⟩ = some (.int .u8 ((bs.getD j 0).toNat : Int)))

/-- 'string(b)'. -/
theorem RdB.text {P : Program} {w : World} {v : Value} {bs : List UInt8} (h : RdB w v bs) (src e dst : TypeId) (hs : P.underlying src = some (.slice e)) (he : P.underlying e = some (.int .u8)) (hd : P.underlying dst = some .string) :
    (convert src dst v).run P w = .ok (.string ⟨bs.toArray⟩) w := by
  obtain ⟨a, cap, rfl, hc⟩ := h
  by_cases h0 : 0 < bs.length
  · obtain ⟨g, o, rfl, hc2⟩ := hc h0
    exact run_convert_bytes_back w src dst e ⟨g, o, none⟩ cap bs hs he hd (fun j hj => by
      have hadd : (⟨g, o, none⟩ : Addr).add j = ⟨g, o + j, none⟩ := by unfold Addr.add; split <;> simp_all
      rw [hadd, hc2 j hj, List.getD_eq_getElem?_getD, List.getElem?_eq_getElem hj]
      rfl)
  · have : bs = [] := List.length_eq_zero_iff.1 (by omega)
    subst this
    cases a with
    | none =>
      rw [run_convert_bytes_nil w src e hs he _ _ dst hd]
      rfl
    | some ad =>
      have := run_convert_bytes_back (P := P) w src dst e ad cap [] hs he hd (fun j hj => by simp at hj)
      exact this

theorem u8_infoE : (Tryd.prog.info? 5).map (fun i => (i.zero.map Value.cells, i.size, i.bytes)) = some (some #[.int .u8 0], 1, 1) := by kernel_rfl
theorem run_makeU {n : Nat} (b2 : n ≤ 1200) (w : World) :
    (Instr.makeSlice 39 (.int .i64 n) (.int .i64 n)).run Tryd.prog w = .ok (.slice (some ⟨w.heap.size, 0, none⟩) n n) (w.alloc (.cells (madeCells #[.int .u8 0] n) 5)) := by
  cases hq : Tryd.prog.info? 5 with
  | none => have := u8_infoE; simp [hq] at this
  | some i =>
    have hz := u8_infoE
    simp only [hq, Option.map_some, Option.some.injEq, Prod.mk.injEq] at hz
    obtain ⟨hz1, hz2, hz3⟩ := hz
    cases hzz : i.zero with
    | none => simp [hzz] at hz1
    | some zv =>
      have hzc : zv.cells = #[.int .u8 0] := by simpa [hzz] using hz1
      have hb : (i.bytes : Int) * (n : Int) ≤ 281474976710656 := by rw [hz3]; omega
      have hr := run_make (P := Tryd.prog) w 39 5 i zv Tryd.underlying39 hq hzz .i64 .i64 (n : Int) (n : Int) (by omega) (Int.le_refl _) hb (by omega)
      simp only [Int.toNat_natCast, hzc, hz2, Nat.mul_one] at hr
      exact hr

/-- 'string(make([]byte, d))' behind the making. -/
theorem run_textZ {n : Nat} (W : World) (g : Nat) (hg : g = W.heap.size) :
    (convert 39 9 (.slice (some ⟨g, 0, none⟩) n n)).run Tryd.prog (W.alloc (.cells (madeCells #[.int .u8 0] n) 5)) = .ok (.string ⟨(List.replicate n (0 : UInt8)).toArray⟩) (W.alloc (.cells (madeCells #[.int .u8 0] n) 5)) := by
  subst hg
  have h := heap_alloc_new W (.cells (madeCells #[.int .u8 0] n) 5)
  rw [made_bytes] at h ⊢
  have R : RdB (W.alloc (.cells (bytesV (List.replicate n 0)).toArray 5)) (.slice (some ⟨W.heap.size, 0, none⟩) n n) (List.replicate n 0) := by
    refine ⟨_, n, by rw [List.length_replicate], fun _ => ⟨_, 0, rfl, fun j hj => ?_⟩⟩
    rw [Nat.zero_add]
    exact bytesV_cell h hj
  exact R.text _ 5 _ Tryd.underlying39 Tryd.underlying5 Tryd.underlying9
end Go.Proofs.YthfhlbnjahakaaaDoor
