/-
  super: Load.
-/
import Derived.Test.YtpdljgjofebgpaaSupC
import Derived.Test.YtpdljgjofebgpaaFlashL
namespace Go.Proofs.Ytpdljgjofebgpaa
open Go.RowKit

/-- A slice of the call's own: these bytes, room no less. -/
def RdC (w : World) (v : Value) (bs : List UInt8) : Prop := RdB w v bs ∧ ∃ a n c, v = .slice a n c ∧ n ≤ c ∧ c ≤ 9223372036854775807
theorem RdC.of_row {w : World} {base n : Nat} {v : Value} {t : TypeId} {l : List UInt8} (h : w.ownsRow base t 1 v n (bytesV l)) (hl : l.length = n) : RdC w v l := by
  subst hl
  refine ⟨RdB.of_row h, ?_⟩
  rcases h.2 with ⟨rfl, h0⟩ | ⟨g, cap, cur, rfl, _, h1, h2, h3, h4, h5⟩
  · exact ⟨none, 0, 0, rfl, Nat.le_refl _, by omega⟩
  · exact ⟨_, _, _, rfl, h2, by unfold maxLen at h3; omega⟩

theorem dec_short {bs : List UInt8} (h : bs.length < 64) : dec bs = none := by
  unfold dec
  rw [if_neg fun h2 => by omega]

theorem decode_eq {w : World} {v : Value} {bs : List UInt8} (h : RdC w v bs) (o : Option Blk) (ho : dec bs = o) :
    Calls Try.prog 27 #[v] w fun e w' => e = .returned (.tuple #[.agg (blkV (decB o)), .int .i64 (decE o)]) ∧ Fr Nob w w' := by
  by_cases hs : bs.length < 64
  · have : o = none := ho.symm.trans (dec_short hs)
    subst this
    exact decode_short h.1 hs
  · obtain ⟨⟨a, cap, rfl, hc⟩, a', n', c', he, h1, h2⟩ := h
    simp only [Value.slice.injEq] at he
    obtain ⟨rfl, rfl, rfl⟩ := he
    obtain ⟨g, o', rfl, hcell⟩ := hc (by omega)
    exact decode_long hcell h1 (by omega) h2 o ho

def pgB : Pg → List UInt8
  | .whole bs => bs
  | _ => []
def pgE : Pg → Int
  | .whole _ => 0
  | .blank => 5
  | .torn => 6
def pgDec (p : Pg) : Option Blk := dec (pgB p)
theorem pgDec_some {p : Pg} {b : Blk} (h : pgDec p = some b) : pgE p = 0 := by
  cases p with
  | whole bs => rfl
  | blank => rw [show pgDec .blank = dec [] from rfl, dec_short (by simp)] at h; cases h
  | torn => rw [show pgDec .torn = dec [] from rfl, dec_short (by simp)] at h; cases h
theorem pgE_range (p : Pg) : pgE p ≠ 4 := by
  cases p with
  | whole bs => show (0 : Int) ≠ 4; decide
  | blank => show (5 : Int) ≠ 4; decide
  | torn => show (6 : Int) ≠ 4; decide

theorem DL.fresh {W w : World} {q : Nat} {K N : Nat → Prop} {D : Dv} (h : DL W w q K N D) : ∀ k, w.heap.size ≤ k → ¬ K k := fun k hk h2 => by
  have := h.klt k h2
  omega

theorem DL.wle {W w : World} {q : Nat} {K N : Nat → Prop} {D : Dv} (h : DL W w q K N D) : W.heap.size ≤ w.heap.size := h.fr.size
theorem DL.less {W w : World} {q : Nat} {K N N' : Nat → Prop} {D : Dv} (h : DL W w q K N D) (hN : ∀ k, N' k → N k) : DL W w q K N' D := by
  obtain ⟨P, s, f, hk, hn, hp⟩ := h
  exact ⟨P, s, f, hk, fun k h => hn k (hN k h), fun k h1 h2 => hp k h1 (hN k h2)⟩
/-- A block that is neither the device's nor a page's turns. -/
theorem DL.keep' {W w w' : World} {q : Nat} {K N : Nat → Prop} {D : Dv} {B : Nat} (h : DL W w q K N D) (f : Fr (One B) w w') (fw : Fr Nob W w') (hB : ¬ K B) (hN : N B) : DL W w' q K N D :=
  h.keep f fw fun k h _ => by
    have h : k = B := h
    rw [h]
    exact ⟨hN, hB⟩

theorem DL.read_any {W w : World} {q : Nat} {K N : Nat → Prop} {D : Dv} (h : DL W w q K N D) {i : Nat} (hi : i < D.pg.length) (ho : D.off = false) (p : Pg) (hp : D.now i = p) :
    Calls Try.prog 32 #[.pointer (some ⟨q, 0, none⟩), .int .i64 i] w fun e w' => ∃ v, e = .returned (.tuple #[v, .int .i64 (pgE p)]) ∧ RdC w' v (pgB p) ∧ DL W w' q K N D.read ∧ Fr K w w' ∧ ∀ k, v.ownBlock = some k → w.heap.size ≤ k := by
  cases p with
  | blank =>
    refine (h.read_blank hi ho hp).mono ?_
    rintro e w' ⟨rfl, d, f⟩
    exact ⟨_, rfl, ⟨RdB.nil w' 0, none, 0, 0, rfl, Nat.le_refl _, by omega⟩, d, f, fun k hk => by simp [Value.ownBlock] at hk⟩
  | torn =>
    refine (h.read_torn hi ho hp).mono ?_
    rintro e w' ⟨rfl, d, f⟩
    exact ⟨_, rfl, ⟨RdB.nil w' 0, none, 0, 0, rfl, Nat.le_refl _, by omega⟩, d, f, fun k hk => by simp [Value.ownBlock] at hk⟩
  | whole bs =>
    refine (h.read_whole hi ho hp).mono ?_
    rintro e w' ⟨v, rfl, own, hl, d, f⟩
    exact ⟨v, rfl, RdC.of_row own hl, d, f, fun k hk => (own.lt k hk).1⟩

def newer (best o : Option Blk) : Option Blk := match o, best with
  | none, best => best
  | some b, none => some b
  | some b, some c => if c.seq < b.seq then some b else some c
def loadK (D : Dv) : Nat → Option Blk
  | 0 => none
  | k + 1 => newer (loadK D k) (pgDec (D.now k))
def loadD (D : Dv) : Option Blk := loadK D 2
def loadE : Option Blk → Int
  | some _ => 0
  | none => 5
def reads (D : Dv) : Nat → Dv
  | 0 => D
  | k + 1 => (reads D k).read
theorem reads_now (D : Dv) (i : Nat) : ∀ k, (reads D k).now i = D.now i
  | 0 => rfl
  | k + 1 => reads_now D i k
theorem reads_pg (D : Dv) : ∀ k, (reads D k).pg = D.pg
  | 0 => rfl
  | k + 1 => reads_pg D k
theorem reads_off (D : Dv) : ∀ k, (reads D k).off = D.off
  | 0 => rfl
  | k + 1 => reads_off D k

theorem blk_cases (b : Blk) : ∃ s0 s1 s2 s3 s4 : Nat, ∃ cl : Bool, ∃ im : Int, b = ⟨s0, s1, s2, s3, s4, cl, im⟩ := ⟨_, _, _, _, _, _, _, rfl⟩
theorem blkV_mk (s0 s1 s2 s3 s4 : Nat) (cl : Bool) (im : Int) : blkV ⟨s0, s1, s2, s3, s4, cl, im⟩ = #[.int .u64 (s0 : Int), .int .u64 (s1 : Int), .int .u64 (s2 : Int), .int .u64 (s3 : Int), .int .u64 (s4 : Int), .bool cl, .int .i64 im] := rfl

theorem arr7 {c : Array Value} (hc : c.size = 7) (u0 u1 u2 u3 u4 u5 u6 : Value) : ((((((c.setIfInBounds 0 u0).setIfInBounds 1 u1).setIfInBounds 2 u2).setIfInBounds 3 u3).setIfInBounds 4 u4).setIfInBounds 5 u5).setIfInBounds 6 u6 = #[u0, u1, u2, u3, u4, u5, u6] := by
  obtain ⟨l⟩ := c
  match l, hc with
  | [a0, a1, a2, a3, a4, a5, a6], _ => rfl
theorem set7 {w : World} {R : Nat} {c : Array Value} {t : TypeId} (h : w.heap[R]? = some (.cells c t (0, 0))) (hc : c.size = 7) (u0 u1 u2 u3 u4 u5 u6 : Value) :
    (((((((w.setCell ⟨R, 0, none⟩ u0).setCell ⟨R, 1, none⟩ u1).setCell ⟨R, 2, none⟩ u2).setCell ⟨R, 3, none⟩ u3).setCell ⟨R, 4, none⟩ u4).setCell ⟨R, 5, none⟩ u5).setCell ⟨R, 6, none⟩ u6).heap[R]? = some (.cells #[u0, u1, u2, u3, u4, u5, u6] t (0, 0)) := by
  have h0 := heap_setCell_same w R 0 c t u0 h
  have h1 := heap_setCell_same _ R 1 _ t u1 h0
  have h2 := heap_setCell_same _ R 2 _ t u2 h1
  have h3 := heap_setCell_same _ R 3 _ t u3 h2
  have h4 := heap_setCell_same _ R 4 _ t u4 h3
  have h5 := heap_setCell_same _ R 5 _ t u5 h4
  have h6 := heap_setCell_same _ R 6 _ t u6 h5
  rw [arr7 hc] at h6
  exact h6
theorem fr7 {w : World} {R : Nat} (u0 u1 u2 u3 u4 u5 u6 : Value) : Fr (One R) w (((((((w.setCell ⟨R, 0, none⟩ u0).setCell ⟨R, 1, none⟩ u1).setCell ⟨R, 2, none⟩ u2).setCell ⟨R, 3, none⟩ u3).setCell ⟨R, 4, none⟩ u4).setCell ⟨R, 5, none⟩ u5).setCell ⟨R, 6, none⟩ u6) :=
  (((((((Fr.refl (One R) w).set1 u0).set1 u1).set1 u2).set1 u3).set1 u4).set1 u5).set1 u6

set_option maxRecDepth 100000 in
set_option maxHeartbeats 2000000 in
theorem load_eq {W w : World} {q : Nat} {K N : Nat → Prop} {D : Dv} (h : DL W w q K N D) (hl : 2 ≤ D.pg.length) (hl2 : D.pg.length ≤ 4096) (ho : D.off = false) (o : Option Blk) (hd : loadD D = o) :
    Calls Try.prog 25 #[.pointer (some ⟨q, 0, none⟩)] w fun e w' => e = .returned (.tuple #[.agg (blkV (decB o)), .int .i64 (loadE o)]) ∧ DL W w' q K N (reads D 2) ∧ Fr K w w' := by
  have H := Lib.hid h
  have HO := Lib.hid ho
  have HD := Lib.hid hd
  clear h ho hd
  go_enter Try.func25, Try.ntmps25
  go_wp2_with fail
  have hr1 := heap_alloc_new w (.cells #[.int .u64 0, .int .u64 0, .int .u64 0, .int .u64 0, .int .u64 0, .bool false, .int .i64 0] 29)
  have f1 : Fr Nob w (w.alloc (.cells #[.int .u64 0, .int .u64 0, .int .u64 0, .int .u64 0, .int .u64 0, .bool false, .int .i64 0] 29)) := (Fr.refl Nob w).alloc _
  have hs1 : (w.alloc (.cells #[.int .u64 0, .int .u64 0, .int .u64 0, .int .u64 0, .int .u64 0, .bool false, .int .i64 0] 29)).heap.size = w.heap.size + 1 := by simp
  generalize w.alloc (.cells #[.int .u64 0, .int .u64 0, .int .u64 0, .int .u64 0, .int .u64 0, .bool false, .int .i64 0] 29) = w1 at *
  have d1 := H.out.nob f1
  refine (d1.pages).mono ?_
  rintro e w' ⟨rfl, rfl⟩
  have hl3 : ¬ (D.pg.length : Int) < 2 := by omega
  obtain ⟨R, hR⟩ : ∃ R, R = w.heap.size := ⟨_, rfl⟩
  obtain ⟨B, hB⟩ : ∃ B, B = w.heap.size + 1 := ⟨_, rfl⟩
  have hb2 := heap_alloc_new w1 (.cells #[.int .u64 0, .int .u64 0, .int .u64 0, .int .u64 0, .int .u64 0, .bool false, .int .i64 0] 29)
  have f2 : Fr Nob w1 (w1.alloc (.cells #[.int .u64 0, .int .u64 0, .int .u64 0, .int .u64 0, .int .u64 0, .bool false, .int .i64 0] 29)) := (Fr.refl Nob w1).alloc _
  have hs2 : (w1.alloc (.cells #[.int .u64 0, .int .u64 0, .int .u64 0, .int .u64 0, .int .u64 0, .bool false, .int .i64 0] 29)).heap.size = w1.heap.size + 1 := by simp
  rw [hs1, ← hB] at hb2
  rw [← hR] at hr1
  have RV := Lib.hid (f2.heap hr1 fun h => h)
  have BV := Lib.hid hb2
  have F2 := Lib.hid (f1.trans' f2)
  have hs2' : (w1.alloc (.cells #[.int .u64 0, .int .u64 0, .int .u64 0, .int .u64 0, .int .u64 0, .bool false, .int .i64 0] 29)).heap.size = w.heap.size + 2 := by rw [hs2, hs1]
  have D2 : Hid (DL W (w1.alloc (.cells #[.int .u64 0, .int .u64 0, .int .u64 0, .int .u64 0, .int .u64 0, .bool false, .int .i64 0] 29)) q K (fun j => N j ∨ j = B ∨ j = R) D) := Lib.hid (H.out.more (f1.trans' f2) fun k hk => by
    rw [hs2']
    rcases hk with h | h | h
    · exact .inl h
    · right; omega
    · right; omega)
  have HS1 := Lib.hid hs1
  have HR := Lib.hid hR
  have HB := Lib.hid hB
  have KR : Hid (¬ K R) := Lib.hid (H.out.fresh R (by rw [hR]; exact Nat.le_refl _))
  have KB : Hid (¬ K B) := Lib.hid (H.out.fresh B (by rw [hB]; omega))
  clear hr1 f1 hs1 d1 hR hB hb2 f2 hs2 hs2'
  go_wp2_with fail
  rw [HS1.out, ← HB.out, ← HR.out]
  generalize w1.alloc (.cells #[.int .u64 0, .int .u64 0, .int .u64 0, .int .u64 0, .int .u64 0, .bool false, .int .i64 0] 29) = w2 at *
  have NRB : Hid (R ≠ B) := Lib.hid (by have := HR.out; have := HB.out; omega)
  go_loopw [5, 15] (fun u i wr => ∃ k : Nat, k ≤ 2 ∧ i = .int .i64 k ∧ u = .bool (loadK D k).isSome ∧ Hid (DL W wr q K (fun j => N j ∨ j = B ∨ j = R) (reads D k)) ∧ Hid (wr.heap[B]? = some (.cells (blkV (decB (loadK D k))) 29 (0, 0))) ∧ Hid (Fr (fun j => K j ∨ j = B) w2 wr)) (fun _ i _ => 2 - (intOf i).toNat)
  case atStart => exact ⟨0, by omega, rfl, rfl, D2, BV, Lib.hid (Fr.refl _ _)⟩
  case round =>
    clear D2 BV
    obtain ⟨k, hk, rfl, rfl, dl, bv, fr⟩ := hrel
    by_cases hlt : k < 2
    · have hki : (k : Int) < 2 := by omega
      obtain ⟨p, hp⟩ : ∃ p, p = D.now k := ⟨_, rfl⟩
      have hrd := Lib.hid (dl.out.read_any (i := k) (by rw [reads_pg]; omega) (by rw [reads_off]; exact HO.out) p (by rw [reads_now, hp]))
      have hst : loadK D (k + 1) = newer (loadK D k) (pgDec p) := by rw [hp]; rfl
      have hrs : (reads D k).read = reads D (k + 1) := rfl
      rw [hrs] at hrd
      have HST := Lib.hid hst
      clear hp hst hrs
      generalize loadK D k = bst at *
      obtain ⟨c, hc⟩ : ∃ c, c = pgE p := ⟨_, rfl⟩
      rw [← hc] at hrd
      have hc4 : (c == 4) = false := beq_eq_false_iff_ne.2 (by rw [hc]; exact pgE_range p)
      have HC := Lib.hid hc
      clear hc
      go_wp2_with fail
      refine hrd.out.mono ?_
      rintro e w3 ⟨v, rfl, rc, d3, f3, hv⟩
      have RC := Lib.hid rc
      have D3 := Lib.hid d3
      have bv3 := f3.heap bv.out KB.out
      have FR3 := Lib.hid (fr.out.trans f3 fun j _ h => Or.inl h)
      have BV3 := Lib.hid bv3
      clear rc d3 f3 hv bv3 hrd
      obtain ⟨o', ho'⟩ : ∃ o', pgDec p = o' := ⟨_, rfl⟩
      have DEC := Lib.hid (decode_eq RC.out o' ho')
      have HO' := Lib.hid ho'
      rw [ho'] at HST
      clear ho'
      obtain ⟨s0, s1, s2, s3, s4, cl, im, hs⟩ := blk_cases (decB o')
      rw [hs, blkV_mk] at DEC
      obtain ⟨t0, t1, t2, t3, t4, tl, tm, ht⟩ := blk_cases (decB bst)
      rw [ht, blkV_mk] at BV3
      have HS := Lib.hid hs
      have HT := Lib.hid ht
      clear hs ht
      go_wp2_with fail
      refine DEC.out.mono ?_
      rintro e w4 ⟨rfl, f4⟩
      have D4 := Lib.hid (D3.out.nob f4)
      have bv4 := f4.heap BV3.out fun h => h
      have FR4 := Lib.hid (FR3.out.trans f4 fun j _ h => h.elim)
      have b0 := cell_of_row w4 B 0 _ _ (0, 0) bv4
      have b1 := cell_of_row w4 B 1 _ _ (0, 0) bv4
      have b2 := cell_of_row w4 B 2 _ _ (0, 0) bv4
      have b3 := cell_of_row w4 B 3 _ _ (0, 0) bv4
      have b4 := cell_of_row w4 B 4 _ _ (0, 0) bv4
      have b5 := cell_of_row w4 B 5 _ _ (0, 0) bv4
      have b6 := cell_of_row w4 B 6 _ _ (0, 0) bv4
      have z0 := frozen_of_row w4 B 0 _ _ bv4
      have z1 := frozen_of_row w4 B 1 _ _ bv4
      have z2 := frozen_of_row w4 B 2 _ _ bv4
      have z3 := frozen_of_row w4 B 3 _ _ bv4
      have z4 := frozen_of_row w4 B 4 _ _ bv4
      have z5 := frozen_of_row w4 B 5 _ _ bv4
      have z6 := frozen_of_row w4 B 6 _ _ bv4
      have BV4 := Lib.hid bv4
      clear f4 bv4 DEC D3 FR3
      have F5 : Hid (Fr Nob w4 (w4.alloc (.cells #[.int .u64 (s0 : Int), .int .u64 (s1 : Int), .int .u64 (s2 : Int), .int .u64 (s3 : Int), .int .u64 (s4 : Int), .bool cl, .int .i64 im] 29))) := Lib.hid ((Fr.refl Nob w4).alloc _)
      have n0 := F5.out.cell b0 fun h => h
      have y0 := (F5.out.frozen (p := ⟨B, 0, none⟩) (lt_of_block BV4.out) fun h => h).trans z0
      have n1 := F5.out.cell b1 fun h => h
      have y1 := (F5.out.frozen (p := ⟨B, 1, none⟩) (lt_of_block BV4.out) fun h => h).trans z1
      have n2 := F5.out.cell b2 fun h => h
      have y2 := (F5.out.frozen (p := ⟨B, 2, none⟩) (lt_of_block BV4.out) fun h => h).trans z2
      have n3 := F5.out.cell b3 fun h => h
      have y3 := (F5.out.frozen (p := ⟨B, 3, none⟩) (lt_of_block BV4.out) fun h => h).trans z3
      have n4 := F5.out.cell b4 fun h => h
      have y4 := (F5.out.frozen (p := ⟨B, 4, none⟩) (lt_of_block BV4.out) fun h => h).trans z4
      have n5 := F5.out.cell b5 fun h => h
      have y5 := (F5.out.frozen (p := ⟨B, 5, none⟩) (lt_of_block BV4.out) fun h => h).trans z5
      have n6 := F5.out.cell b6 fun h => h
      have y6 := (F5.out.frozen (p := ⟨B, 6, none⟩) (lt_of_block BV4.out) fun h => h).trans z6
      cases o' with
      | none =>
        rw [show decE none = 3 from rfl]
        have hnw : loadK D (k + 1) = bst := by rw [HST.out]; cases bst <;> rfl
        have HNW := Lib.hid hnw
        clear hnw
        go_wp2_with fail
        all_goals
          go_roundw
          case rel =>
            refine ⟨k + 1, by omega, by go_num, by rw [HNW.out], Lib.hid (D4.out.nob F5.out), Lib.hid ?_, Lib.hid (FR4.out.trans F5.out fun j _ h => h.elim)⟩
            rw [HNW.out, HT.out, blkV_mk]
            exact F5.out.heap BV4.out fun h => h
          case measure => simp [intOf]; omega
      | some b =>
        rw [show decE (some b) = 0 from rfl]
        have hc0 : c = 0 := by rw [HC.out]; exact pgDec_some HO'.out
        subst hc0
        cases bst with
        | none =>
          rw [show (none : Option Blk).isSome = false from rfl]
          have hnw : newer none (some b) = some b := rfl
          have hnb : decB (loadK D (k + 1)) = ⟨s0, s1, s2, s3, s4, cl, im⟩ := by rw [HST.out, hnw]; exact HS.out
          have HNB := Lib.hid hnb
          have HNW := Lib.hid hnw
          clear hnb hnw
          go_wp2_with fail
          go_roundw
          case rel =>
            have f6 := (F5.out.nob (S := One B)).trans (fr7 (w := (w4.alloc (.cells #[.int .u64 (s0 : Int), .int .u64 (s1 : Int), .int .u64 (s2 : Int), .int .u64 (s3 : Int), .int .u64 (s4 : Int), .bool cl, .int .i64 im] 29))) (R := B) (.int .u64 (s0 : Int)) (.int .u64 (s1 : Int)) (.int .u64 (s2 : Int)) (.int .u64 (s3 : Int)) (.int .u64 (s4 : Int)) (.bool cl) (.int .i64 im)) (S := One B) fun j _ h => h
            refine ⟨k + 1, by omega, by go_num, by rw [HST.out, HNW.out]; rfl, Lib.hid ?_, Lib.hid ?_, Lib.hid (FR4.out.trans f6 fun j _ h => Or.inr h)⟩
            · exact D4.out.keep' f6 (D4.out.fr.trans f6 fun j hj h => by
                have h : j = B := h
                have := HB.out
                have := H.out.wle
                omega) KB.out (.inr (.inl rfl))
            · rw [HNB.out, blkV_mk]
              exact set7 (F5.out.heap BV4.out fun h => h) rfl _ _ _ _ _ _ _
          case measure => simp [intOf]; omega
        | some c' =>
          rw [show (some c').isSome = true from rfl]
          have e1 : b.seq = s0 := by have := HS.out; rw [show decB (some b) = b from rfl] at this; rw [this]
          have e2 : c'.seq = t0 := by have := HT.out; rw [show decB (some c') = c' from rfl] at this; rw [this]
          by_cases hlt2 : t0 < s0
          · have hnw : newer (some c') (some b) = some b := by show (if c'.seq < b.seq then some b else some c') = _; rw [e1, e2, if_pos hlt2]
            have hti : (t0 : Int) < (s0 : Int) := by omega
            clear e1 e2
            have hnb : decB (loadK D (k + 1)) = ⟨s0, s1, s2, s3, s4, cl, im⟩ := by rw [HST.out, hnw]; exact HS.out
            have HNB := Lib.hid hnb
            have HNW := Lib.hid hnw
            clear hnb hnw
            go_wp2_with fail
            go_roundw
            case rel =>
              have f6 := (F5.out.nob (S := One B)).trans (fr7 (w := (w4.alloc (.cells #[.int .u64 (s0 : Int), .int .u64 (s1 : Int), .int .u64 (s2 : Int), .int .u64 (s3 : Int), .int .u64 (s4 : Int), .bool cl, .int .i64 im] 29))) (R := B) (.int .u64 (s0 : Int)) (.int .u64 (s1 : Int)) (.int .u64 (s2 : Int)) (.int .u64 (s3 : Int)) (.int .u64 (s4 : Int)) (.bool cl) (.int .i64 im)) (S := One B) fun j _ h => h
              refine ⟨k + 1, by omega, by go_num, by rw [HST.out, HNW.out]; rfl, Lib.hid ?_, Lib.hid ?_, Lib.hid (FR4.out.trans f6 fun j _ h => Or.inr h)⟩
              · exact D4.out.keep' f6 (D4.out.fr.trans f6 fun j hj h => by
                  have h : j = B := h
                  have := HB.out
                  have := H.out.wle
                  omega) KB.out (.inr (.inl rfl))
              · rw [HNB.out, blkV_mk]
                exact set7 (F5.out.heap BV4.out fun h => h) rfl _ _ _ _ _ _ _
            case measure => simp [intOf]; omega
          · have hnw : newer (some c') (some b) = some c' := by show (if c'.seq < b.seq then some b else some c') = _; rw [e1, e2, if_neg hlt2]
            have hti : ¬ (t0 : Int) < (s0 : Int) := by omega
            have hnw2 : loadK D (k + 1) = some c' := by rw [HST.out, hnw]
            have HNW := Lib.hid hnw2
            clear hnw hnw2 e1 e2
            go_wp2_with fail
            go_roundw
            case rel =>
              refine ⟨k + 1, by omega, by go_num, by rw [HNW.out]; rfl, Lib.hid (D4.out.nob F5.out), Lib.hid ?_, Lib.hid (FR4.out.trans F5.out fun j _ h => h.elim)⟩
              rw [HNW.out, HT.out, blkV_mk]
              exact F5.out.heap BV4.out fun h => h
            case measure => simp [intOf]; omega
    · have hk2 : k = 2 := by omega
      subst hk2
      have ho2 : loadK D 2 = o := HD.out
      rw [ho2] at bv ⊢
      have rv := fr.out.heap RV.out (fun h => h.elim KR.out NRB.out)
      obtain ⟨t0, t1, t2, t3, t4, tl, tm, ht⟩ := blk_cases (decB o)
      rw [ht, blkV_mk] at bv
      have HT := Lib.hid ht
      have b0 := cell_of_row wr B 0 _ _ (0, 0) bv.out
      have b1 := cell_of_row wr B 1 _ _ (0, 0) bv.out
      have b2 := cell_of_row wr B 2 _ _ (0, 0) bv.out
      have b3 := cell_of_row wr B 3 _ _ (0, 0) bv.out
      have b4 := cell_of_row wr B 4 _ _ (0, 0) bv.out
      have b5 := cell_of_row wr B 5 _ _ (0, 0) bv.out
      have b6 := cell_of_row wr B 6 _ _ (0, 0) bv.out
      have e0 := cell_of_row wr R 0 _ _ (0, 0) rv
      have e1 := cell_of_row wr R 1 _ _ (0, 0) rv
      have e2 := cell_of_row wr R 2 _ _ (0, 0) rv
      have e3 := cell_of_row wr R 3 _ _ (0, 0) rv
      have e4 := cell_of_row wr R 4 _ _ (0, 0) rv
      have e5 := cell_of_row wr R 5 _ _ (0, 0) rv
      have e6 := cell_of_row wr R 6 _ _ (0, 0) rv
      have z0 := frozen_of_row wr R 0 _ _ rv
      have z1 := frozen_of_row wr R 1 _ _ rv
      have z2 := frozen_of_row wr R 2 _ _ rv
      have z3 := frozen_of_row wr R 3 _ _ rv
      have z4 := frozen_of_row wr R 4 _ _ rv
      have z5 := frozen_of_row wr R 5 _ _ rv
      have z6 := frozen_of_row wr R 6 _ _ rv
      have FIN : Hid (∀ u0 u1 u2 u3 u4 u5 u6 : Value, DL W (((((((wr.setCell ⟨R, 0, none⟩ u0).setCell ⟨R, 1, none⟩ u1).setCell ⟨R, 2, none⟩ u2).setCell ⟨R, 3, none⟩ u3).setCell ⟨R, 4, none⟩ u4).setCell ⟨R, 5, none⟩ u5).setCell ⟨R, 6, none⟩ u6) q K N (reads D 2) ∧ Fr K w (((((((wr.setCell ⟨R, 0, none⟩ u0).setCell ⟨R, 1, none⟩ u1).setCell ⟨R, 2, none⟩ u2).setCell ⟨R, 3, none⟩ u3).setCell ⟨R, 4, none⟩ u4).setCell ⟨R, 5, none⟩ u5).setCell ⟨R, 6, none⟩ u6)) := Lib.hid fun u0 u1 u2 u3 u4 u5 u6 => by
        have f7 := fr7 (w := wr) (R := R) u0 u1 u2 u3 u4 u5 u6
        have hw := H.out.wle
        have hr := HR.out
        have hb := HB.out
        refine ⟨(dl.out.keep' f7 (dl.out.fr.trans f7 fun j hj h => ?_) KR.out (.inr (.inr rfl))).less fun j h => .inl h, ((F2.out.nob.trans fr.out fun j hj h => ?_).trans f7 fun j hj h => ?_)⟩
        · have h : j = R := h
          omega
        · rcases h with h | h
          · exact h
          · omega
        · have h : j = R := h
          omega
      clear rv bv fr dl
      cases o with
      | none =>
        rw [show (none : Option Blk).isSome = false from rfl]
        clear ht
        go_wp2_with fail
        refine bodyPost_ret (v := .tuple #[.agg #[.int .u64 0, .int .u64 0, .int .u64 0, .int .u64 0, .int .u64 0, .bool false, .int .i64 0], .int .i64 5]) (by simp [results, Try.results25, go_sem, e0, e1, e2, e3, e4, e5, e6]) rfl ⟨rfl, FIN.out _ _ _ _ _ _ _⟩
      | some b =>
        rw [show (some b).isSome = true from rfl]
        clear ht
        go_wp2_with fail
        exact bodyPost_ret (v := .tuple #[.agg #[.int .u64 (t0 : Int), .int .u64 (t1 : Int), .int .u64 (t2 : Int), .int .u64 (t3 : Int), .int .u64 (t4 : Int), .bool tl, .int .i64 tm], .int .i64 0]) (by simp [results, Try.results25, go_sem, e0, e1, e2, e3, e4, e5, e6]) rfl ⟨by rw [HT.out]; rfl, FIN.out _ _ _ _ _ _ _⟩

end Go.Proofs.Ytpdljgjofebgpaa
