/-
  The law DramUsed, walked.
-/
import Derived.Test.YtpbbokpmlemboaaDramClear
namespace Go.Proofs.Ytpbbokpmlemboaa
open Go.RowKit Sl

theorem used_pushed {S : Sg} {x z : Int} {t : Nat} : (S.pushed x t).isUsed z = if z = x then false else S.isUsed z := by
  unfold Sg.isUsed
  rw [show (S.pushed x t).U = delM S.U x from rfl, getM_delM]
  split <;> rfl
theorem used_set {S : Sg} {t : Nat} {l : List Int} {z : Int} : (S.set t l).isUsed z = S.isUsed z := by
  unfold Sg.isUsed
  rw [S.set_U]
theorem used_gone {S : Sg} {x z : Int} : (S.gone x).isUsed z = if z = x then false else S.isUsed z := by
  unfold Sg.isUsed
  rw [show (S.gone x).U = delM S.U x from rfl, getM_delM]
  split <;> rfl
theorem used_touched {S : Sg} {x z : Int} : (S.touched x).isUsed z = if z = x then true else S.isUsed z := by
  unfold Sg.isUsed
  rw [show (S.touched x).U = setM S.U x true from rfl, getM_setM]
  split <;> rfl
theorem Sunk.used {q t : Nat} {S S' : Sg} (k : Sunk q t S S') {z : Int} (h : S'.isUsed z = true) : S.isUsed z = true := by
  induction k with
  | done _ => exact h
  | more _ _ _ ih =>
    have h1 := ih h
    unfold Sg.sink at h1
    rw [used_pushed, used_set] at h1
    split at h1
    · cases h1
    · exact h1
theorem AddTo.used {S S' : Sg} {x : Int} (h : AddTo S x S') (hx : (getM S.I x).isSome = false) {z : Int} (hz : S'.isUsed z = true) : S.isUsed z = true := by
  obtain ⟨S1, k1, k2⟩ := h.2.2 hx
  have h1 := k1.used (k2.used hz)
  rw [used_pushed] at h1
  split at h1
  · cases h1
  · exact h1
theorem Left.used {S S' : Sg} {x z : Int} (k : Left S x S') (hz : S'.isUsed z = true) : S.isUsed z = true := by
  have one : ∀ {t : Nat} {l : List Int}, ((S.set t l).gone x).isUsed z = true → S.isUsed z = true := fun h => by
    rw [used_gone, used_set] at h
    split at h
    · cases h
    · exact h
  cases k with
  | cold _ => exact one hz
  | warm _ _ => exact one hz
  | hot _ _ _ => exact one hz
theorem Left.of_cold {S S' : Sg} {x : Int} (k : Left S x S') (hc : S.c ≠ []) : ∃ l, S.c = l ++ [x] := by
  cases k with
  | cold h => exact ⟨_, h⟩
  | warm h _ => exact absurd h hc
  | hot h _ _ => exact absurd h hc
/-- The one that is used is not let go. -/
theorem ev_spare {S S' : Sg} {x y : Int} (o : S.Ok) (hu : ∀ z, S.isUsed z = true → z = x) (hx : S.isUsed x = true) (hc : 2 ≤ S.c.length) (h : EvTo S y true S') : y ≠ x ∧ ∀ z, S'.isUsed z = true → z = x := by
  obtain ⟨_, S1, mv, h⟩ := h
  rcases h with ⟨_, lf⟩ | ⟨h, _⟩
  · cases mv with
    | done hd =>
      obtain ⟨l, hl⟩ := lf.of_cold (by intro e; rw [e] at hc; simp at hc)
      refine ⟨fun e => ?_, fun z hz => hu z (lf.used hz)⟩
      have := hd l y hl
      rw [e, hx] at this
      cases this
    | @more _ _ l a hl ha k =>
      have hax := hu a ha
      subst hax
      have none : ∀ z, ((S.set 2 l).pushed a 1).isUsed z = false := fun z => by
        rw [used_pushed, used_set]
        split
        · rfl
        · rename_i e
          cases hz : S.isUsed z with
          | false => rfl
          | true => exact absurd (hu z hz) e
      have hl1 : ((S.set 2 l).pushed a 1).c = l := rfl
      have hnd := o.nod 2 (by omega)
      have hg : S.get 2 = l ++ [a] := hl
      rw [hg, List.nodup_append] at hnd
      have hlen : 1 ≤ l.length := by rw [hl] at hc; simp at hc; omega
      cases k with
      | done hd =>
        obtain ⟨l', hl'⟩ := lf.of_cold (by rw [hl1]; intro e; rw [e] at hlen; simp at hlen)
        rw [hl1] at hl'
        refine ⟨fun e => hnd.2.2 y (by rw [hl']; simp) a (by simp) e, fun z hz => ?_⟩
        have := lf.used hz
        rw [none z] at this
        cases this
      | more hl2 hb _ =>
        rw [none] at hb
        cases hb
  · cases h

theorem Big.tot {C : DC} (h : Big C) : (C.G 5).tot = C.M.length := by
  have h1 := h.ok.tot (i := 5) (by omega)
  have h2 := nodup_len' (keysM C.M) (keysM (C.G 5).I) h.ok.nd fun x hx => by
    have h3 : (getM C.M x).isSome = true := getM_isSome.2 hx
    obtain ⟨o, ho⟩ := Option.isSome_iff_exists.1 h3
    have h4 := (h.ok.cls x o ho).2
    rw [h.big x o ho] at h4
    exact getM_isSome.1 ((h.ok.seg 5 x (by omega)).2 ⟨h.ok.taken ho, h4, by simp⟩)
  have h3 : (keysM (C.G 5).I).length = (C.G 5).I.length := List.length_map ..
  have h4 : (keysM C.M).length = C.M.length := List.length_map ..
  have := (h.ok.sg 5 (by omega)).len
  omega

def keyU : ByteArray := ⟨#[117, 115, 101, 100]⟩
def keyX (q : Nat) : ByteArray := ⟨#[UInt8.ofNat q, 120]⟩
theorem keyX_size (q : Nat) : (keyX q).size = 2 := rfl
theorem keyX_inj {a b : Nat} (ha : a < 256) (hb : b < 256) (h : keyX a = keyX b) : a = b := by
  have h1 : UInt8.ofNat a = UInt8.ofNat b := by
    have := congrArg (fun k : ByteArray => k.data.toList) h
    simpa [keyX] using this
  have h2 := congrArg UInt8.toNat h1
  simp only [UInt8.toNat_ofNat'] at h2
  omega
theorem keyX_U (q : Nat) : keyX q ≠ keyU := fun h => by
  have := congrArg ByteArray.size h
  rw [keyX_size] at this
  exact absurd this (by decide)
theorem text_two {w : World} {g : Nat} (q : Nat) (hq : q < 256) {v : Int} (hv : v = (q : Int)) (h : w.heap[g]? = some (.cells #[.int .u8 v, .int .u8 120] 5 (0, 0))) : (convert 52 9 (.slice (some ⟨g, 0, none⟩) 2 2)).run Try.prog w = .ok (.string (keyX q)) w := by
  subst hv
  have e : (#[.int .u8 (q : Int), .int .u8 120] : Array Value) = (bytesV [UInt8.ofNat q, 120]).toArray := by
    have : (UInt8.ofNat q).toNat = q := by simp only [UInt8.toNat_ofNat']; omega
    simp only [bytesV, List.map_cons, List.map_nil, this]
    rfl
  rw [e] at h
  have h1 : RdB w (.slice (some ⟨g, 0, none⟩) [UInt8.ofNat q, 120].length 2) [UInt8.ofNat q, 120] := RdB.of_block h
  exact h1.text _ _ _ Try.underlying52 Try.underlying5 Try.underlying9

/-- The law's cache: 'used' in the chunk x, no other one marked as used. -/
structure Usd (C : DC) (m i : Nat) (x : Int) : Prop where
  big : Big C
  sl : C.S.length = m
  at_ : Tb.getP C.T.m keyU = some x
  use : ∀ y, (C.G 5).isUsed y = true → y = x
  fits : (C.G 5).h.length ≤ ((C.G 5).tot + 4) / 5 ∧ (C.G 5).m.length ≤ 2 * (C.G 5).tot / 5
  keys : ∀ k o, C.look k = some o → (k = keyU ∧ o = (bigI keyU, false)) ∨ ∃ q, 1 ≤ q ∧ q ≤ i ∧ k = keyX q

theorem Usd.look {C : DC} {m i : Nat} {x : Int} (h : Usd C m i x) : C.look keyU = some (bigI keyU, false) ∧ getM C.M x = some (bigI keyU, false) := by
  obtain ⟨o, ho, hk⟩ := h.big.ok.ofKey _ _ h.at_
  have hl : C.look keyU = some o := by unfold DC.look; rw [h.at_]; exact ho
  rcases h.keys _ _ hl with ⟨_, e⟩ | ⟨q, _, _, e⟩
  · rw [hl, ho, e]; exact ⟨rfl, rfl⟩
  · exact absurd e.symm (keyX_U q)

theorem Usd.touch {C : DC} {m i : Nat} {x : Int} (h : Usd C m i x) : Usd (touchC C x) m i x ∧ ((touchC C x).G 5).isUsed x = true := by
  have hx := h.look.2
  obtain ⟨ok', _, _, _⟩ := h.big.ok.touch hx
  have h5 : ofS C.S x = 5 := by rw [(h.big.ok.cls x _ hx).2, h.big.big x _ hx]
  have hG : (touchC C x).G 5 = (C.G 5).touched x := by
    unfold touchC
    rw [h5]
    exact upG_at C.G 5 ((C.G 5).touched x)
  have hlists : ((C.G 5).touched x).h = (C.G 5).h ∧ ((C.G 5).touched x).m = (C.G 5).m ∧ ((C.G 5).touched x).tot = (C.G 5).tot := ⟨rfl, rfl, rfl⟩
  refine ⟨⟨⟨ok', h.big.big⟩, h.sl, h.at_, fun y hy => ?_, ?_, h.keys⟩, ?_⟩
  · rw [hG, used_touched] at hy
    split at hy
    · assumption
    · exact h.use y hy
  · rw [hG]; exact h.fits
  · rw [hG, used_touched, if_pos rfl]

theorem Usd.put {C C' : DC} {m i : Nat} {x : Int} {os : List Ou} (h : Usd C m i x) (hu : (C.G 5).isUsed x = true) (hm4 : 4 ≤ m) (hi : i < 200) (p : PutTo C (bigI (keyX (i + 1))) false os C') : Usd C' m (i + 1) x := by
  have hg := bigI_good (k := keyX (i + 1)) (by rw [keyX_size]; omega) (by rw [keyX_size]; omega)
  have td := p.told hg h.big.ok
  have hno : C.look (keyX (i + 1)) = none := by
    cases hl : C.look (keyX (i + 1)) with
    | none => rfl
    | some o =>
      rcases h.keys _ _ hl with ⟨e, _⟩ | ⟨q, h1, h2, h3⟩
      · exact absurd e (keyX_U _)
      · have := keyX_inj (by omega) (by omega) h3
        omega
  obtain ⟨bp, hb⟩ := h.big.put p hg (bigI_cls (by rw [keyX_size]; omega) (by rw [keyX_size]; omega)) hno (by rw [h.sl]; omega)
  have keys' : ∀ k o, C'.look k = some o → (k = keyU ∧ o = (bigI keyU, false)) ∨ ∃ q, 1 ≤ q ∧ q ≤ i + 1 ∧ k = keyX q := fun k o ho => by
    rw [td.look] at ho
    split at ho
    · rename_i e
      exact .inr ⟨i + 1, by omega, by omega, e⟩
    · split at ho
      · cases ho
      · rcases h.keys _ _ ho with e | ⟨q, a, b, c⟩
        · exact .inl e
        · exact .inr ⟨q, a, by omega, c⟩
  have fresh : ∀ {D : DC}, Big D → D.M.length < 2 * D.S.length → (getM (D.G 5).I (takeN D.S ((5 : Nat) : Int))).isSome = false := fun {D} hD hl => by
    obtain ⟨g, _, _⟩ := take_gone (c := ((5 : Nat) : Int)) (by omega) (by omega) hD.ok.pg (hD.room hl)
    cases hh : (getM (D.G 5).I (takeN D.S ((5 : Nat) : Int))).isSome with
    | false => rfl
    | true =>
      have h1 := ((hD.ok.seg 5 _ (by omega)).1 hh).1
      rw [g.was] at h1
      cases h1
  have hkx : (bigI (keyX (i + 1))).key = keyX (i + 1) := rfl
  have htot := h.big.tot
  have hle := h.big.le
  cases bp with
  | @free S' hl a =>
    have hfr := fresh h.big hl
    have hG : (DC.mk (takeS C.S ((5 : Nat) : Int)) (Tb.setK C.T (bigI (keyX (i + 1))).key (takeN C.S ((5 : Nat) : Int))) (upG C.G 5 S') (setM C.M (takeN C.S ((5 : Nat) : Int)) (bigI (keyX (i + 1)), false))).G 5 = S' := upG_at C.G 5 S'
    refine ⟨hb, td.sl.trans h.sl, ?_, fun y hy => ?_, ?_, keys'⟩
    · show Tb.getP (Tb.setK C.T (keyX (i + 1)) _).m keyU = some x
      rw [Tb.getP_set, if_neg fun e => keyX_U _ e.symm]
      exact h.at_
    · rw [hG] at hy
      exact h.use y (a.used hfr hy)
    · rw [hG]
      exact (a.2.2 hfr).fits
  | @full C1 S' o hl t a =>
    obtain ⟨y, rid⟩ := t.rid (by omega) h.big.ok
    have b1 := rid.big h.big
    have l1 := rid.len h.big.ok
    have s1 := rid.sl
    have hfr := fresh b1 (by omega)
    obtain ⟨y', S'', ev, hy, he⟩ := t
    have hfrom : C.from_ 5 = 5 := by
      unfold DC.from_
      rw [if_neg]
      have := h.sl
      omega
    rw [hfrom] at ev he
    have hC : (C.G 5).tot = (C.G 5).h.length + (C.G 5).m.length + (C.G 5).c.length := rfl
    obtain ⟨f1, f2⟩ := h.fits
    have hsl := h.sl
    obtain ⟨hne, huse⟩ := ev_spare (h.big.ok.sg 5 (by omega)) h.use hu (by omega) ev
    have hok : o.1.key ≠ keyU := fun e => by
      have h1 := h.big.ok.keyOf y' o hy
      rw [e, h.at_] at h1
      exact hne (Option.some.inj h1).symm
    have hG1 : C1.G 5 = S'' := by rw [he]; exact upG_at C.G 5 S''
    have hG : (DC.mk (takeS C1.S ((5 : Nat) : Int)) (Tb.setK C1.T (bigI (keyX (i + 1))).key (takeN C1.S ((5 : Nat) : Int))) (upG C1.G 5 S') (setM C1.M (takeN C1.S ((5 : Nat) : Int)) (bigI (keyX (i + 1)), false))).G 5 = S' := upG_at C1.G 5 S'
    have hT1 : C1.T = Tb.delK C.T o.1.key := by rw [he]; rfl
    refine ⟨hb, td.sl.trans h.sl, ?_, fun z hz => ?_, ?_, keys'⟩
    · show Tb.getP (Tb.setK C1.T (keyX (i + 1)) _).m keyU = some x
      rw [Tb.getP_set, if_neg (fun e => keyX_U _ e.symm), hT1, Tb.getP_delK, if_neg fun e => hok e.symm]
      exact h.at_
    · rw [hG] at hz
      have h1 := a.used hfr hz
      rw [hG1] at h1
      exact huse z h1
    · rw [hG]
      exact (a.2.2 hfr).fits

theorem Usd.start {C' : DC} {m : Nat} {os : List Ou} (hm4 : 4 ≤ m) (p : PutTo (newC m) (bigI keyU) false os C') : ∃ x, Usd C' m 0 x := by
  have hb0 : Big (newC m) := .empty (newC_ok m) rfl
  have hg := bigI_good (k := keyU) (by decide) (by decide)
  have td := p.told hg hb0.ok
  have hsl : (newC m).S.length = m := List.length_replicate
  obtain ⟨bp, hb⟩ := hb0.put p hg (bigI_cls (by decide) (by decide)) rfl (by omega)
  have hlen : (newC m).M.length = 0 := rfl
  cases bp with
  | @free S' hl a =>
    have hfr : (getM ((newC m).G 5).I (takeN (newC m).S ((5 : Nat) : Int))).isSome = false := rfl
    have hG : (DC.mk (takeS (newC m).S ((5 : Nat) : Int)) (Tb.setK (newC m).T (bigI keyU).key (takeN (newC m).S ((5 : Nat) : Int))) (upG (newC m).G 5 S') (setM (newC m).M (takeN (newC m).S ((5 : Nat) : Int)) (bigI keyU, false))).G 5 = S' := upG_at (newC m).G 5 S'
    refine ⟨takeN (newC m).S ((5 : Nat) : Int), hb, td.sl.trans hsl, ?_, fun y hy => ?_, ?_, fun k o ho => ?_⟩
    · show Tb.getP (Tb.setK (newC m).T keyU _).m keyU = _
      rw [Tb.getP_set, if_pos rfl]
    · rw [hG] at hy
      have := a.used hfr hy
      cases this
    · rw [hG]
      exact (a.2.2 hfr).fits
    · rw [td.look] at ho
      split at ho
      · rename_i e
        exact .inl ⟨e, (Option.some.inj ho).symm⟩
      · split at ho
        · cases ho
        · cases ho
  | full hl _ _ => omega

set_option maxHeartbeats 8000000 in
set_option maxRecDepth 100000 in
theorem dramUsed_in (m n : Nat) (w : World) (hm1 : 4 ≤ m) (hm2 : m ≤ 10) (hn : n ≤ 40) :
    Calls Try.prog 8 #[.int .i64 m, .int .i64 n] w fun e w' => e = .returned (.bool true) ∧ Fr Nob w w' := by
  have e1 : ¬ (m : Int) < 4 := by omega
  have e2 : ¬ 10 < (m : Int) := by omega
  have e4 : ¬ (n : Int) < 0 := by omega
  have e3 : ¬ 40 < (n : Int) := by omega
  go_enter Try.func8, Try.ntmps8
  go_wp2_with fail
  refine (awake_ok w).mono ?_
  rintro e w1 ⟨rfl, f1⟩
  have F1 := Lib.hid f1
  clear f1
  go_wp2_with fail
  refine (DW.new (X := Nob) m F1.out (by omega) (by omega) (fun _ h => h.elim)).mono ?_
  rintro e w2 ⟨c, rfl, d2, -⟩
  clear F1
  go_wp2_with fail
  refine (big_eq keyU).mono ?_
  rintro e w3 ⟨rfl, f3⟩
  have d3 := Lib.hid (d2.out.nob f3)
  clear d2 f3
  go_wp2_with fail
  refine (d3.out.put keyU bigV 0 0 1 false (bigI_good (by decide) (by decide))).mono ?_
  rintro e w4 ⟨r, os, C1, rfl, pt, d4, row, -⟩
  obtain ⟨x, us⟩ := Usd.start hm1 pt.out
  have D4 := Lib.hid (d4.out.less (Y := Nob) fun _ h => h.elim)
  have US := Lib.hid us
  clear pt d4 row us d3
  go_wp2_with fail
  go_loopw [7, 8, 9] (fun i _ _ wr => ∃ j : Nat, j ≤ n ∧ i = .int .i64 j ∧ ∃ C, Hid (DW w wr c C Nob) ∧ Hid (Usd C m j x)) (fun i _ _ _ => n - (Lib.intOf i).toNat)
  case atStart => exact ⟨0, Nat.zero_le _, rfl, C1, D4, US⟩
  case round =>
    clear D4 US
    obtain ⟨j, hj, rfl, C, D, U⟩ := hrel
    by_cases hlt : j < n
    · have hlt2 : (j : Int) < (n : Int) := by omega
      go_wp2_with fail
      refine (D.out.get_live (o := ((⟨keyU, bigV, 0, 0, 1⟩ : It), false)) keyU 0 (by decide) U.out.look.1 rfl).mono ?_
      rintro e w5 ⟨rfl, x', hx', d5, -⟩
      have hxx : x' = x := by
        have h1 := hx'.out.1
        rw [U.out.at_] at h1
        exact (Option.some.inj h1).symm
      subst hxx
      obtain ⟨u2, hu2⟩ := U.out.touch
      have U2 := Lib.hid u2
      have HU := Lib.hid hu2
      have f6 := (Fr.refl Nob w5).alloc (.cells #[.string keyU, .string bigV, .int .u32 0, .int .i64 0, .int .u64 1] 33)
      have D6 := Lib.hid (d5.out.nob f6)
      clear d5 hx' U D u2 hu2 f6
      go_upto_region 13 with fail
      generalize w5.alloc (.cells #[.string keyU, .string bigV, .int .u32 0, .int .i64 0, .int .u64 1] 33) = w6 at *
      generalize touchC C x' = C2 at *
      have CV := text_two (w := w6.alloc (.cells #[.int .u8 ((j : Int) + 1), .int .u8 120] 5)) (g := w6.heap.size) (j + 1) (by omega) (v := (j : Int) + 1) (by omega) (heap_alloc_new w6 _)
      have D7 := Lib.hid (D6.out.nob ((Fr.refl Nob w6).alloc (.cells #[.int .u8 ((j : Int) + 1), .int .u8 120] 5)))
      clear D6
      go_wp2_with fail
      refine (big_eq (keyX (j + 1))).mono ?_
      rintro e w7 ⟨rfl, f7⟩
      have D8 := Lib.hid (D7.out.nob f7)
      clear D7 f7 CV
      go_wp2_with fail
      refine (D8.out.put (keyX (j + 1)) bigV 0 0 1 false (bigI_good (by rw [keyX_size]; omega) (by rw [keyX_size]; omega))).mono ?_
      rintro e w8 ⟨r, os, C5, rfl, pt, d9, row, -⟩
      have U5 := Lib.hid (U2.out.put HU.out hm1 (by omega) pt.out)
      have D9 := Lib.hid (d9.out.less (Y := Nob) fun _ h => h.elim)
      clear pt d9 row U2 HU D8
      go_wp2_with fail
      go_roundw
      case rel => exact ⟨j + 1, by omega, by go_num, C5, D9, U5⟩
      case measure => simp [Lib.intOf]; omega
    · go_wp2_with fail
      refine (D.out.get_live (o := ((⟨keyU, bigV, 0, 0, 1⟩ : It), false)) keyU 0 (by decide) U.out.look.1 rfl).mono ?_
      rintro e w5 ⟨rfl, x', -, d5, -⟩
      have F6 := Lib.hid (d5.out.nob ((Fr.refl Nob w5).alloc (.cells #[.string keyU, .string bigV, .int .u32 0, .int .i64 0, .int .u64 1] 33))).fr
      go_wp2_with fail
      go_ret
      exact ⟨rfl, F6.out⟩

theorem first_bad4 {a b c d : Prop} [Decidable a] [Decidable b] [Decidable c] [Decidable d] (h : ¬ (¬ a ∧ ¬ b ∧ ¬ c ∧ ¬ d)) : a ∨ (¬ a ∧ b) ∨ (¬ a ∧ ¬ b ∧ c) ∨ (¬ a ∧ ¬ b ∧ ¬ c ∧ d) := by
  by_cases ha : a <;> by_cases hb : b <;> by_cases hc : c <;> by_cases hd : d <;> simp_all

set_option maxHeartbeats 3200000 in
set_option maxRecDepth 100000 in
theorem dramUsed_walk (m n : Int) (w : World) (_hm : (Lit.int .i64 m).wf = true) (_hn : (Lit.int .i64 n).wf = true) :
    Calls Try.prog 8 #[.int .i64 m, .int .i64 n] w fun e w' => e = .returned (.bool true) ∧ Fr Nob w w' := by
  by_cases hin : ¬ m < 4 ∧ ¬ 10 < m ∧ ¬ n < 0 ∧ ¬ 40 < n
  · obtain ⟨h1, h2, h3, h4⟩ := hin
    obtain ⟨m, rfl⟩ := Int.eq_ofNat_of_zero_le (show 0 ≤ m by omega)
    obtain ⟨n, rfl⟩ := Int.eq_ofNat_of_zero_le (show 0 ≤ n by omega)
    exact dramUsed_in m n w (by omega) (by omega) (by omega)
  · have hor := first_bad4 hin
    clear hin _hm _hn
    rcases hor with h | ⟨h1, h⟩ | ⟨h1, h2, h⟩ | ⟨h1, h2, h3, h⟩
    all_goals
      go_enter Try.func8, Try.ntmps8
      go_wp2_with fail
      refine (awake_ok w).mono ?_
      rintro e w0 ⟨rfl, f0⟩
      have f0 := Lib.hid f0
      go_wp2_with fail
      go_ret
      exact ⟨rfl, f0.out⟩
end Go.Proofs.Ytpbbokpmlemboaa
