/-
  super: what a Store leaves behind, plain; slices of blocks that come in.
-/
import Derived.Test.YtpdljgjofebgpaaOpen
import Derived.Test.YtpdljgjofebgpaaSupAw
namespace Go.Proofs.Ytpdljgjofebgpaa
open Go.RowKit Go.ChangeShapes Go.WideShapes Go.Deep

/-- A device that nothing has been done to: it is on, not armed, of two pages. -/
def Calm (D : Dv) : Prop := D.pg.length = 2 ∧ D.off = false ∧ D.arm ≤ 0

theorem Calm.spend {D : Dv} (h : Calm D) : D.spend = D := spend_on h.2.1 h.2.2
theorem Calm.reads {D : Dv} (h : Calm D) : ∀ k, Calm (reads D k)
  | 0 => h
  | k + 1 => (h.reads k)
theorem Calm.read {D : Dv} (h : Calm D) : Calm D.read := h
theorem Calm.change {D : Dv} (h : Calm D) (i : Nat) (p : Pg) : Calm (D.change i p) := by
  refine ⟨by rw [change_len]; exact h.1, ?_⟩
  unfold Dv.change
  rw [h.spend, if_neg (by simp [h.2.1])]
  exact h.2
theorem Calm.flush {D : Dv} (h : Calm D) : Calm D.flush := by
  refine ⟨by rw [flush_len]; exact h.1, ?_⟩
  unfold Dv.flush
  rw [h.spend, if_neg (by simp [h.2.1])]
  exact h.2
theorem Calm.now_change {D : Dv} (h : Calm D) {i j : Nat} (p : Pg) (hi : i < 2) : (D.change i p).now j = if j = i then p else D.now j := by
  have hl := h.1
  unfold Dv.change
  rw [h.spend, if_neg (by simp [h.2.1])]
  unfold Dv.put Dv.now
  simp only
  rw [List.getD_eq_getElem?_getD, List.getElem?_modify]
  by_cases hj : j = i
  · subst hj
    rw [if_pos rfl, List.getElem?_eq_getElem (by omega)]
    simp [Pc.now]
  · rw [if_neg hj]
    simp [Ne.symm hj, List.getD_eq_getElem?_getD]
theorem Calm.now_flush {D : Dv} (h : Calm D) (j : Nat) : D.flush.now j = D.now j := by
  unfold Dv.flush
  rw [h.spend, if_neg (by simp [h.2.1])]
  unfold Dv.sunk Dv.now
  simp only
  rw [List.getD_eq_getElem?_getD, List.getElem?_map, List.getD_eq_getElem?_getD]
  cases D.pg[j]? <;> simp [Pc.now]
theorem Calm.now_stF {D : Dv} (h : Calm D) (b : Blk) (j : Nat) : (stF D b).now j = if j = (seqOf D + 1) % 2 then .whole (pad (enc (bumped D b))) else D.now j := by
  unfold stF stW
  rw [((h.reads 2).change _ _).now_flush, (h.reads 2).now_change _ (by omega), reads_now]
theorem Calm.stF {D : Dv} (h : Calm D) (b : Blk) : Calm (stF D b) := ((h.reads 2).change _ _).flush
theorem Calm.bw {D : Dv} (h : Calm D) : (Go.Proofs.Ytpdljgjofebgpaa.reads D 2).spend.off = false := by rw [(h.reads 2).spend]; exact (h.reads 2).2.1
theorem Calm.bf {D : Dv} (h : Calm D) (b : Blk) : (stW D b).spend.off = false := by
  unfold stW
  rw [((h.reads 2).change _ _).spend]; exact ((h.reads 2).change _ _).2.1

theorem pgDec_enc {b : Blk} (h : b.ok) : pgDec (.whole (pad (enc b))) = some b.norm := by
  show dec (enc b ++ List.replicate (384 - (enc b).length) 0) = some b.norm
  exact dec_enc h _

theorem newer_ge (b o : Option Blk) : (decB b).seq ≤ (decB (newer b o)).seq ∧ (decB o).seq ≤ (decB (newer b o)).seq := by
  cases o with
  | none => cases b with
    | none => exact ⟨Nat.le_refl _, Nat.le_refl _⟩
    | some c => exact ⟨Nat.le_refl _, Nat.zero_le _⟩
  | some x =>
    cases b with
    | none => exact ⟨Nat.zero_le _, Nat.le_refl _⟩
    | some c =>
      show c.seq ≤ (decB (if c.seq < x.seq then some x else some c)).seq ∧ x.seq ≤ (decB (if c.seq < x.seq then some x else some c)).seq
      split
      · exact ⟨by show c.seq ≤ x.seq; omega, Nat.le_refl _⟩
      · exact ⟨Nat.le_refl _, by show x.seq ≤ c.seq; omega⟩
theorem newer_left {x : Blk} {o : Option Blk} (h : (decB o).seq < x.seq) : newer (some x) o = some x := by
  cases o with
  | none => rfl
  | some c =>
    show (if x.seq < c.seq then some c else some x) = _
    have h : c.seq < x.seq := h
    rw [if_neg (by omega)]
theorem newer_right {x : Blk} {b : Option Blk} (h : (decB b).seq < x.seq) : newer b (some x) = some x := by
  cases b with
  | none => rfl
  | some c =>
    show (if c.seq < x.seq then some x else some c) = _
    have h : c.seq < x.seq := h
    rw [if_pos h]
theorem newer_none (o : Option Blk) : newer none o = o := by cases o <;> rfl
theorem load_two (D : Dv) : loadD D = newer (pgDec (D.now 0)) (pgDec (D.now 1)) := by
  show newer (newer none (pgDec (D.now 0))) (pgDec (D.now 1)) = _
  rw [newer_none]

/-- What is loaded behind a Store: the block that was stored. -/
theorem Calm.load_stF {D : Dv} (h : Calm D) {b : Blk} (hb : b.ok) (hs : seqOf D + 1 < 18446744073709551616) : loadD (Go.Proofs.Ytpdljgjofebgpaa.stF D b) = some (bumped D b).norm := by
  have hbo : (bumped D b).ok := ⟨hs, hb.2⟩
  have hseq : (bumped D b).norm.seq = seqOf D + 1 := rfl
  have hle := newer_ge (pgDec (D.now 0)) (pgDec (D.now 1))
  rw [← load_two] at hle
  have h1 : (decB (loadD D)).seq = seqOf D := rfl
  rw [load_two, h.now_stF, h.now_stF]
  rcases (by omega : (seqOf D + 1) % 2 = 0 ∨ (seqOf D + 1) % 2 = 1) with e | e
  · rw [e, if_pos rfl, if_neg (by omega), pgDec_enc hbo]
    exact newer_left (by omega)
  · rw [e, if_neg (by omega), if_pos rfl, pgDec_enc hbo]
    exact newer_right (by omega)
theorem Calm.seq_stF {D : Dv} (h : Calm D) {b : Blk} (hb : b.ok) (hs : seqOf D + 1 < 18446744073709551616) : seqOf (Go.Proofs.Ytpdljgjofebgpaa.stF D b) = seqOf D + 1 := by
  unfold seqOf
  rw [h.load_stF hb hs]
  rfl

structure BlkRow (w : World) (A : Option Addr) (n : Nat) (z : Nat → Blk) : Prop where
  rows : ArgRows w 7 A n fun i => (blkV (z i)).toList
  ok : ∀ i, i < n → (z i).ok

theorem BlkRow.keep {w w' : World} {n : Nat} {A : Option Addr} {z : Nat → Blk} (h : BlkRow w A n z) (hf : Fr Nob w w') : BlkRow w' A n z := ⟨h.rows.keep hf, h.ok⟩
theorem BlkRow.addr {w : World} {A : Option Addr} {n : Nat} {z : Nat → Blk} (h : BlkRow w A n z) (hn : 0 < n) : ∃ b o, A = some ⟨b, o, none⟩ := by
  obtain ⟨b, o, hA, _⟩ := h.rows hn
  exact ⟨b, o, hA⟩
theorem BlkRow.cell {w : World} {A : Option Addr} {n : Nat} {z : Nat → Blk} (h : BlkRow w A n z) {b o : Nat} (hA : A = some ⟨b, o, none⟩) {i : Nat} (hi : i < n) (j : Nat) (hj : j < 7) :
    w.cell? ⟨b, o + i * 7 + j, none⟩ = (blkV (z i)).toList[j]? := by
  obtain ⟨b', o', hA', _, hc⟩ := h.rows (by omega)
  rw [hA] at hA'
  simp only [Option.some.injEq, Addr.mk.injEq, and_true] at hA'
  obtain ⟨rfl, rfl⟩ := hA'
  exact (hc i hi).2 j hj

theorem u64_nat {x : Int} (h : (Lit.int .u64 x).wf = true) : ∃ n : Nat, x = n ∧ n < 18446744073709551616 := by
  have h2 : 0 ≤ x ∧ x ≤ 18446744073709551615 := by
    simp [Lit.wf, IntKind.min, IntKind.max, IntKind.signed, IntKind.bits] at h
    omega
  exact ⟨x.toNat, by omega, by omega⟩
deriving instance Inhabited for Blk
set_option maxRecDepth 100000

theorem open_blks {H : Type} {enc : TypeId × Value → H} {w : World} {held : Bool} {n c : Nat} {A : Option Addr} {d : DataW H} {ps : List MemPlace}
    (h : DataW.Trod enc Try.prog w 0 (fun _ => true) held 42 (.slice A n c) d ps) : ∃ z : Nat → Blk, BlkRow w A n z := by
  obtain ⟨f, h1, _, _, h2⟩ := open_rows (size := 7) Try.underlying42 (by kernel_rfl) (by omega) h
  obtain ⟨z, hz⟩ := choose_lt (α := Blk) (n := n) (p := fun i x => f i = (blkV x).toList ∧ x.ok) (fun i hi => by
    obtain ⟨fuel, x, hx⟩ := h2 i hi
    obtain ⟨xs, m, _, _, hlen, hxl, hf⟩ := DataW.trod_struct Try.underlying29 hx
    have hlen' : (f i).length = 7 := hlen
    have g0 := hf 0 _ rfl
    have g1 := hf 1 _ rfl
    have g2 := hf 2 _ rfl
    have g3 := hf 3 _ rfl
    have g4 := hf 4 _ rfl
    have g5 := hf 5 _ rfl
    have g6 := hf 6 _ rfl
    generalize f i = l at *
    match l, hlen' with
    | [v0, v1, v2, v3, v4, v5, v6], _ =>
      have c1 : Try.prog.cellsOf 3 = 1 := by kernel_rfl
      have c2 : Try.prog.cellsOf 27 = 1 := by kernel_rfl
      have c3 : Try.prog.cellsOf 4 = 1 := by kernel_rfl
      match xs, (show xs.length = 7 from hxl) with
      | [y0, y1, y2, y3, y4, y5, y6], _ =>
        simp [c1, c2, c3] at g0 g1 g2 g3 g4 g5 g6
        obtain ⟨n0, e0, _, w0⟩ := DataW.trod_int Try.underlying27 g0
        obtain ⟨n1, e1, _, w1⟩ := DataW.trod_int Try.underlying27 g1
        obtain ⟨n2, e2, _, w2⟩ := DataW.trod_int Try.underlying27 g2
        obtain ⟨n3, e3, _, w3⟩ := DataW.trod_int Try.underlying27 g3
        obtain ⟨n4, e4, _, w4⟩ := DataW.trod_int Try.underlying27 g4
        obtain ⟨b5, e5, _⟩ := DataW.trod_bool Try.underlying4 g5
        obtain ⟨n6, e6, _, w6⟩ := DataW.trod_int Try.underlying3 g6
        simp at e0 e1 e2 e3 e4 e5 e6
        subst e0 e1 e2 e3 e4 e5 e6
        obtain ⟨m0, rfl, q0⟩ := u64_nat w0
        obtain ⟨m1, rfl, q1⟩ := u64_nat w1
        obtain ⟨m2, rfl, q2⟩ := u64_nat w2
        obtain ⟨m3, rfl, q3⟩ := u64_nat w3
        obtain ⟨m4, rfl, q4⟩ := u64_nat w4
        exact ⟨⟨m0, m1, m2, m3, m4, b5, n6⟩, rfl, q0, q1, q2, q3, q4⟩)
  refine ⟨z, fun hn => ?_, fun i hi => (hz i hi).2⟩
  obtain ⟨b, o, hA, hb, hc⟩ := h1 hn
  exact ⟨b, o, hA, hb, fun i hi => by show ((blkV (z i)).toList).length = 7 ∧ ∀ j, j < 7 → _ = ((blkV (z i)).toList)[j]?; rw [← (hz i hi).1]; exact hc i hi⟩

end Go.Proofs.Ytpdljgjofebgpaa
