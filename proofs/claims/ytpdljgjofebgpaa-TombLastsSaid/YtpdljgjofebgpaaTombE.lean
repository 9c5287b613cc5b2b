/-
  tomb: Open.
-/
import Derived.Test.YtpdljgjofebgpaaTombD
namespace Go.Proofs.Ytpdljgjofebgpaa
open Go.RowKit

theorem tread_eq {w : World} {v : Value} {bs : List UInt8} (h : RdC w v bs) (hl : bs.length = 384) (gen : Nat) (o : Option (List Mk)) (ho : tread gen bs = o) :
    Calls Try.prog 85 #[v, .int .u64 gen] w fun e w' => TReadTo w o e w' := by
  cases o with
  | none => exact tread_none h hl gen ho
  | some l => exact tread_some h hl gen l ho

/-- Two devices whose pages and power are one. -/
structure LikeD (D D' : Dv) : Prop where
  pg : D'.pg = D.pg
  off : D'.off = D.off
  arm : D'.arm = D.arm
  loss : D'.loss = D.loss
theorem LikeD.refl (D : Dv) : LikeD D D := ⟨rfl, rfl, rfl, rfl⟩
theorem LikeD.read {D D' : Dv} (h : LikeD D D') : LikeD D D'.read := ⟨h.pg, h.off, h.arm, h.loss⟩
theorem LikeD.now {D D' : Dv} (h : LikeD D D') (i : Nat) : D'.now i = D.now i := by unfold Dv.now; rw [h.pg]

/-- What Open makes: a journal of the call's own. -/
structure OpenTo (W w w' : World) (q : Nat) (K N : Nat → Prop) (D : Dv) (j m : Nat) (J : Jn) : Prop where
  dl : ∃ D', DL W w' q K (fun k => N k ∨ k = j ∨ k = m) D' ∧ LikeD D D'
  ji : JIs w' q j m J
  fr : Fr K w w'
  jl : w.heap.size ≤ j
  ml : w.heap.size ≤ m

theorem OpenTo.kj {W w w' : World} {q : Nat} {K N : Nat → Prop} {D : Dv} {j m : Nat} {J : Jn} (h : OpenTo W w w' q K N D j m J) (hk : ∀ k, K k → k < w.heap.size) : ¬ K j ∧ ¬ K m :=
  ⟨fun h2 => by have := hk j h2; have := h.jl; omega, fun h2 => by have := hk m h2; have := h.ml; omega⟩

theorem readD_len {bs : List UInt8} {l : List Mk} {gen : Nat} (h : tread gen bs = some l) : l.length ≤ 23 := by
  unfold tread at h
  split at h
  · rename_i h2
    simp only [Option.some.injEq] at h
    subst h
    rw [marksOf_len]
    exact h2.2.1
  · cases h

theorem openL_torn {now : Nat → Pg} {first gen n u : Nat} {M : List Mk} (h : now (first + u) = .torn) : openL now first gen (n + 1) u M = openL now first gen n (u + 1) M := by
  conv => lhs; unfold openL
  rw [h]
theorem openL_none {now : Nat → Pg} {first gen n u : Nat} {M : List Mk} {bs : List UInt8} (h : now (first + u) = .whole bs) (ht : tread gen bs = none) : openL now first gen (n + 1) u M = (u, M) := by
  conv => lhs; unfold openL
  rw [h]
  simp only [ht]
theorem openL_some {now : Nat → Pg} {first gen n u : Nat} {M l : List Mk} {bs : List UInt8} (h : now (first + u) = .whole bs) (ht : tread gen bs = some l) : openL now first gen (n + 1) u M = openL now first gen n (u + 1) (noteL M l) := by
  conv => lhs; unfold openL
  rw [h]
  simp only [ht]

set_option maxRecDepth 100000 in
set_option maxHeartbeats 4000000 in
theorem open_eq {W w : World} {q : Nat} {K N : Nat → Prop} {D : Dv} (h : DL W w q K N D) (ho : D.off = false) {first pages gen : Nat} (h1 : 1 ≤ pages) (hf : first + pages ≤ D.pg.length) (hl : D.pg.length ≤ 4096) :
    Calls Try.prog 49 #[.pointer (some ⟨q, 0, none⟩), .int .i64 first, .int .i64 pages, .int .u64 gen] w fun e w' => ∃ j, e = .returned (.tuple #[.pointer (some ⟨j, 0, none⟩), .int .i64 0]) ∧ ∃ m,
      OpenTo W w w' q K N D j m ⟨first, pages, gen, (openL D.now first gen pages 0 []).1, D.loss, (openL D.now first gen pages 0 []).2⟩ := by
  have H := Lib.hid h
  have KLT := Lib.hid h.klt
  have e1 : ¬ (first : Int) < 0 := by omega
  have e2 : ¬ (pages : Int) < 1 := by omega
  have e3 : ¬ (D.pg.length : Int) < (first : Int) := by omega
  have e4 : ¬ (D.pg.length : Int) - (first : Int) < (pages : Int) := by omega
  have e5 : IntKind.i64.wrap ((D.pg.length : Int) - (first : Int)) = (D.pg.length : Int) - (first : Int) := by rw [IntKind.wrap_i64]; omega
  have HO := Lib.hid ho
  have HF := Lib.hid hf
  have HL := Lib.hid hl
  clear h hf hl
  go_enter Try.func49, Try.ntmps49
  go_wp2_with (first
    | (go_at_call 61; refine H.out.pages.mono ?_; rintro e w' ⟨rfl, rfl⟩)
    | (go_at_call 38; refine H.out.power.mono ?_; rintro e w' ⟨rfl, rfl⟩; rw [HO.out])
    | (go_at_call 39; refine H.out.losses.mono ?_; rintro e w' ⟨rfl, rfl⟩))
  have hb := heap_alloc_new w (.cells #[.pointer (some ⟨q, 0, none⟩), .int .i64 D.loss, .int .i64 first, .int .i64 pages, .int .u64 0, .int .i64 0, .map none] 136)
  obtain ⟨j, hj⟩ : ∃ j, j = w.heap.size := ⟨_, rfl⟩
  have fa : Fr Nob w (w.alloc (.cells #[.pointer (some ⟨q, 0, none⟩), .int .i64 D.loss, .int .i64 first, .int .i64 pages, .int .u64 0, .int .i64 0, .map none] 136)) := (Fr.refl Nob w).alloc _
  rw [← hj] at hb ⊢
  have hs : w.heap.size ≤ (w.alloc (.cells #[.pointer (some ⟨q, 0, none⟩), .int .i64 D.loss, .int .i64 first, .int .i64 pages, .int .u64 0, .int .i64 0, .map none] 136)).heap.size := fa.size
  generalize w.alloc (.cells #[.pointer (some ⟨q, 0, none⟩), .int .i64 D.loss, .int .i64 first, .int .i64 pages, .int .u64 0, .int .i64 0, .map none] 136) = w1 at *
  refine (begin_any (q := q) (J := ⟨first, pages, 0, 0, D.loss, []⟩) hb gen).mono ?_
  rintro e w2 ⟨rfl, ji, f2⟩
  obtain ⟨m, hm⟩ : ∃ m, m = w1.heap.size := ⟨_, rfl⟩
  rw [← hm] at ji
  have f02 : Fr Nob w w2 := fa.trans f2 fun i hi (e : i = j) => by omega
  have JL := Lib.hid (show w.heap.size ≤ j by omega)
  have ML := Lib.hid (show w.heap.size ≤ m by omega)
  have DL2 : Hid (DL W w2 q K (fun k => N k ∨ k = j ∨ k = m) D) := Lib.hid (H.out.more f02 fun k hk => by
    rcases hk with hk | hk | hk
    · exact .inl hk
    · exact .inr ⟨by omega, by have := lt_of_block ji.top; omega⟩
    · exact .inr ⟨by omega, by have := ji.map.lt; omega⟩)
  have JI : Hid (JIs w2 q j m ⟨first, pages, gen, 0, D.loss, []⟩) := Lib.hid ji
  have FF : Hid (Fr K w w2) := Lib.hid f02.nob
  have LK := Lib.hid (LikeD.refl D)
  clear hb fa hs f2 f02 ji hj hm w1
  go_wp2_with fail
  go_loopg [] (pages + 1) (fun gk wr => ∃ (u : Nat) (M : List Mk) (D1 : Dv), gk = pages - u + 1 ∧ u ≤ pages ∧ Hid (JIs wr q j m ⟨first, pages, gen, u, D.loss, M⟩) ∧ Hid (DL W wr q K (fun k => N k ∨ k = j ∨ k = m) D1) ∧ Hid (LikeD D D1) ∧ Hid (Fr K w wr) ∧ Hid (openL D.now first gen pages 0 [] = openL D.now first gen (pages - u) u M))
  case atStart => exact ⟨0, [], D, rfl, Nat.zero_le _, JI, DL2, LK, FF, Lib.hid rfl⟩
  case round =>
    clear JI DL2 LK FF
    obtain ⟨u, M, D1, rfl, hu, JI, DD, LK, FF, OE⟩ := hrel
    have c5 := JI.out.cells.2.2.2.2.2.1
    by_cases hlt : u < pages
    · have hui : (u : Int) < (pages : Int) := by omega
      have hw1 : IntKind.i64.wrap ((first : Int) + (u : Int)) = ((first + u : Nat) : Int) := by rw [IntKind.wrap_i64]; have := HF.out; have := HL.out; omega
      have hlen : Hid (first + u < D1.pg.length) := Lib.hid (by rw [LK.out.pg]; have := HF.out; omega)
      have hoff : Hid (D1.off = false) := Lib.hid (by rw [LK.out.off]; exact HO.out)
      have HWU : Hid (wrap64 ((u : Int) + 1) = ((u + 1 : Nat) : Int)) := Lib.hid (by rw [IntWalk.wrap64_in _ (by have := HF.out; have := HL.out; omega)]; omega)
      have KJ : Hid (¬ K j ∧ ¬ K m) := Lib.hid ⟨fun h => by have := KLT.out j h; have := JL.out; omega, fun h => by have := KLT.out m h; have := ML.out; omega⟩
      obtain ⟨p, hp⟩ : ∃ p, D.now (first + u) = p := ⟨_, rfl⟩
      have hp1 : D1.now (first + u) = p := by rw [LK.out.now]; exact hp
      obtain ⟨d, hd⟩ : ∃ d, pages - u = d + 1 := ⟨pages - u - 1, by omega⟩
      cases p with
      | blank =>
        go_wp2_with fail
        rw [show (first : Int) + (u : Int) = ((first + u : Nat) : Int) from (Int.natCast_add first u).symm]
        refine (DD.out.read_blank hlen.out hoff.out hp1).mono ?_
        rintro e w4 ⟨rfl, d4, f4⟩
        have DD5 := Lib.hid d4
        have JX := Lib.hid (JI.out.keep f4 KJ.out.1 KJ.out.2)
        have LK5 := Lib.hid LK.out.read
        have FF5 := Lib.hid (FF.out.trans' f4)
        have oe := OE.out
        rw [openL_blank hp] at oe
        have OE5 := Lib.hid oe
        clear d4 f4 oe
        go_wp2_with fail
        go_ret2
        refine ⟨j, rfl, m, ⟨⟨_, DD5.out, LK5.out⟩, ?_, FF5.out, JL.out, ML.out⟩⟩
        rw [OE5.out]
        exact JX.out
      | torn =>
        have oe := OE.out
        rw [hd, openL_torn hp] at oe
        have OE5 : Hid (openL D.now first gen pages 0 [] = openL D.now first gen (pages - (u + 1)) (u + 1) M) := Lib.hid (by rw [show pages - (u + 1) = d by omega]; exact oe)
        go_wp2_with fail
        rw [show (first : Int) + (u : Int) = ((first + u : Nat) : Int) from (Int.natCast_add first u).symm]
        refine (DD.out.read_torn hlen.out hoff.out hp1).mono ?_
        rintro e w4 ⟨rfl, d4, f4⟩
        have DD5 := Lib.hid d4
        have jx := JI.out.keep f4 KJ.out.1 KJ.out.2
        have LK5 := Lib.hid LK.out.read
        have FF5 := Lib.hid (FF.out.trans' f4)
        clear d4 f4 oe c5
        have c5 := jx.cells.2.2.2.2.2.1
        have z5 := jx.cells.2.2.2.2.2.2.2 5
        have JX := Lib.hid jx
        go_wp2_with fail
        go_roundg (pages - (u + 1) + 1)
        case measure => omega
        case rel =>
          rw [HWU.out]
          exact ⟨u + 1, M, _, rfl, by omega, Lib.hid (JX.out.use (u + 1)), Lib.hid (DD5.out.keep (T := One j) ((Fr.refl (One j) _).set1 _) (DD5.out.fr.trans ((Fr.refl (One j) _).set1 _) fun i hi (e : i = j) => by have := JL.out; have := H.out.wle; omega) fun k (e : k = j) _ => ⟨.inr (.inl e), by rw [e]; exact KJ.out.1⟩), LK5, Lib.hid (FF5.out.trans ((Fr.refl (One j) _).set1 _) fun i hi (e : i = j) => by have := JL.out; omega), OE5⟩
      | whole bs =>
        obtain ⟨o, hoo⟩ : ∃ o, tread gen bs = o := ⟨_, rfl⟩
        have TR := Lib.hid hoo
        have oe := OE.out
        rw [hd] at oe
        cases o with
        | none =>
          rw [openL_none hp hoo] at oe
          have OE5 := Lib.hid oe
          clear oe hoo
          go_wp2_with fail
          rw [show (first : Int) + (u : Int) = ((first + u : Nat) : Int) from (Int.natCast_add first u).symm]
          refine (DD.out.read_whole hlen.out hoff.out hp1).mono ?_
          rintro e w4 ⟨v, rfl, own, hlb, d4, f4⟩
          have RR := Lib.hid (tread_none (RdC.of_row own hlb) hlb gen TR.out)
          have DD5 := Lib.hid d4
          have JX := Lib.hid (JI.out.keep f4 KJ.out.1 KJ.out.2)
          have LK5 := Lib.hid LK.out.read
          have FF5 := Lib.hid (FF.out.trans' f4)
          clear d4 f4 own c5
          go_wp2_with fail
          refine RR.out.mono ?_
          rintro e w6 ⟨rfl, f6⟩
          replace DD5 := Lib.hid (DD5.out.nob f6)
          replace JX := Lib.hid (JX.out.nob f6)
          replace FF5 := Lib.hid (FF5.out.trans' f6.nob)
          clear f6 RR
          go_wp2_with fail
          go_ret2
          refine ⟨j, rfl, m, ⟨⟨_, DD5.out, LK5.out⟩, ?_, FF5.out, JL.out, ML.out⟩⟩
          rw [OE5.out]
          exact JX.out
        | some l =>
          rw [openL_some hp hoo] at oe
          have OE5 : Hid (openL D.now first gen pages 0 [] = openL D.now first gen (pages - (u + 1)) (u + 1) (noteL M l)) := Lib.hid (by rw [show pages - (u + 1) = d by omega]; exact oe)
          have L23 := Lib.hid (readD_len hoo)
          clear oe hoo
          go_wp2_with fail
          rw [show (first : Int) + (u : Int) = ((first + u : Nat) : Int) from (Int.natCast_add first u).symm]
          refine (DD.out.read_whole hlen.out hoff.out hp1).mono ?_
          rintro e w4 ⟨v, rfl, own, hlb, d4, f4⟩
          have RR := Lib.hid (tread_some (RdC.of_row own hlb) hlb gen l TR.out)
          have DD5 := Lib.hid d4
          have JX := Lib.hid (JI.out.keep f4 KJ.out.1 KJ.out.2)
          have LK5 := Lib.hid LK.out.read
          have FF5 := Lib.hid (FF.out.trans' f4)
          clear d4 f4 own c5
          go_wp2_with fail
          refine RR.out.mono ?_
          rintro e w6 ⟨lv, rfl, own6, f6⟩
          have RM := RdM.of_row own6
          have hvm : ∀ k, lv.ownBlock = some k → k ≠ m := fun k hk e => by
            have h1 := (own6.lt k hk).1
            have h2 := JX.out.map.lt
            omega
          replace DD5 := Lib.hid (DD5.out.nob f6)
          replace JX := Lib.hid (JX.out.nob f6)
          replace FF5 := Lib.hid (FF5.out.trans' f6.nob)
          have NT := Lib.hid (note_eq JX.out RM hvm (by have := L23.out; omega))
          clear f6 RR own6 RM hvm
          go_wp2_with fail
          refine NT.out.mono ?_
          rintro e w7 ⟨rfl, jx, f7⟩
          have DD7 : Hid (DL W w7 q K (fun k => N k ∨ k = j ∨ k = m) D1.read) := Lib.hid (DD5.out.keep (T := One m) f7 (DD5.out.fr.trans f7 fun i hi (e : i = m) => by have := ML.out; have := H.out.wle; omega) fun k (e : k = m) _ => ⟨.inr (.inr e), by rw [e]; exact KJ.out.2⟩)
          have FF7 : Hid (Fr K w w7) := Lib.hid (FF5.out.trans f7 fun i hi (e : i = m) => by have := ML.out; omega)
          clear f7 NT
          have c5 := jx.cells.2.2.2.2.2.1
          have z5 := jx.cells.2.2.2.2.2.2.2 5
          have JX := Lib.hid jx
          go_wp2_with fail
          go_roundg (pages - (u + 1) + 1)
          case measure => omega
          case rel =>
            rw [HWU.out]
            exact ⟨u + 1, (noteL M l), _, rfl, by omega, Lib.hid (JX.out.use (u + 1)), Lib.hid (DD7.out.keep (T := One j) ((Fr.refl (One j) _).set1 _) (DD7.out.fr.trans ((Fr.refl (One j) _).set1 _) fun i hi (e : i = j) => by have := JL.out; have := H.out.wle; omega) fun k (e : k = j) _ => ⟨.inr (.inl e), by rw [e]; exact KJ.out.1⟩), LK5, Lib.hid (FF7.out.trans ((Fr.refl (One j) _).set1 _) fun i hi (e : i = j) => by have := JL.out; omega), OE5⟩
    · have hue : u = pages := by omega
      subst hue
      go_wp2_with fail
      go_ret2
      have oe := OE.out
      rw [Nat.sub_self, show openL D.now first gen 0 u M = (u, M) from rfl] at oe
      refine ⟨j, rfl, m, ⟨⟨D1, DD.out, LK.out⟩, ?_, FF.out, JL.out, ML.out⟩⟩
      rw [oe]
      exact JI.out

end Go.Proofs.Ytpdljgjofebgpaa
