/-
  flash: Flush.
-/
import Derived.Test.YtpdljgjofebgpaaFlashD
import Derived.Test.YtpdljgjofebgpaaMapRg
namespace Go.Proofs.Ytpdljgjofebgpaa
open Go.RowKit

/-- A page that lasts turns. -/
theorem DevIn.setFl {w : World} {q g cap m : Nat} {vals : List Value} {L : List (Int × Value)} {P : Nat → Prop} {D : Dv} (s : DevIn w q g cap m vals L P D) (hP : ∀ k, P k → k ≠ g) {i : Nat} (hi : i < D.pg.length) {v : Value} {p : Pg} (hv : PgAt w P v p) :
    DevIn (w.setCell ⟨g, i, none⟩ v) q g cap m (vals.set i v) L P { D with pg := D.pg.modify i (fun c => (p, c.2)) } := by
  have f : Fr (One g) w (w.setCell ⟨g, i, none⟩ v) := (Fr.refl (One g) w).set1 v
  have hl := s.len
  refine ⟨?_, ?_, s.map.keep f (fun e => s.ne.2.2 (Eq.symm e)), ?_, ?_, ?_, s.arm0, s.arm1, ?_, ?_⟩
  · show _ = some (Obj.cells #[Value.slice _ (D.pg.modify i _).length cap, _, _, _, _, _, _, _, _] _ _)
    rw [modify_len]
    exact f.heap s.top s.ne.1
  · show World.ownsRow _ _ _ _ (.slice _ (D.pg.modify i _).length cap) (D.pg.modify i _).length _
    rw [modify_len]
    obtain ⟨cur, h1, h2, h3, h4, h5⟩ := s.block
    refine ⟨by rw [List.length_set, Nat.mul_one]; exact hl, .inr ⟨g, cap, cur.setIfInBounds i v, rfl, Nat.zero_le _, heap_setCell_same w g i _ _ _ h1, h2, h3, by simp [h4], ?_⟩⟩
    rw [Array.toList_setIfInBounds, Nat.mul_one, List.take_set, h5]
  · intro j c h
    have h' : (D.pg.modify i (fun c => (p, c.2)))[j]? = some c := h
    rw [List.getElem?_modify] at h'
    cases hc : D.pg[j]? with
    | none => rw [hc] at h'; cases h'
    | some c0 =>
      rw [hc] at h'
      simp only [Option.map_eq_map, Option.map_some, Option.some.injEq] at h'
      by_cases e : i = j
      · subst e
        rw [if_pos rfl] at h'
        rw [← h']
        exact ⟨v, by rw [List.getElem?_set_self (by rw [hl]; exact hi)], hv.keep f hP⟩
      · rw [if_neg e] at h'
        have hc' : c0 = c := h'
        subst hc'
        obtain ⟨u, h1, h2⟩ := s.fl j c0 hc
        exact ⟨u, by rw [List.getElem?_set_ne e]; exact h1, h2.keep f hP⟩
  · intro j c h
    have h' : (D.pg.modify i (fun c => (p, c.2)))[j]? = some c := h
    rw [List.getElem?_modify] at h'
    cases hc : D.pg[j]? with
    | none => rw [hc] at h'; cases h'
    | some c0 =>
      rw [hc] at h'
      simp only [Option.map_eq_map, Option.map_some, Option.some.injEq] at h'
      have e2 : c.2 = c0.2 := by
        rw [← h']
        split <;> rfl
      rw [e2]
      exact (s.wt j c0 hc).keep f hP
  · intro k hk
    show 0 ≤ k ∧ k < ((D.pg.modify i _).length : Int)
    rw [modify_len]
    exact s.keys k hk
  · show 1 ≤ (D.pg.modify i _).length; rw [modify_len]; exact s.low
  · show (D.pg.modify i _).length ≤ 4096; rw [modify_len]; exact s.most

/-- Nothing waits any more. -/
theorem DevIn.clearM {w w2 : World} {q g cap m : Nat} {vals : List Value} {L : List (Int × Value)} {P : Nat → Prop} {D : Dv} (s : DevIn w q g cap m vals L P D) (hP : ∀ k, P k → k ≠ m) (hm : MapIs (Value.int .i64) id w2 m ([] : List (Int × Value))) (f : Fr (One m) w w2) :
    DevIn w2 q g cap m vals [] P { D with pg := D.pg.map (fun c => (c.1, none)) } := by
  have hl : (D.pg.map (fun c : Pc => ((c.1, none) : Pc))).length = D.pg.length := by simp
  have hat : ∀ (j : Nat) (c : Pc), (D.pg.map (fun c : Pc => ((c.1, none) : Pc)))[j]? = some c → ∃ c0, D.pg[j]? = some c0 ∧ c = (c0.1, none) := by
    intro j c h
    rw [List.getElem?_map] at h
    cases hc : D.pg[j]? with
    | none => rw [hc] at h; cases h
    | some c0 => rw [hc] at h; exact ⟨c0, rfl, (Option.some.inj h).symm⟩
  refine ⟨?_, ?_, hm, ?_, ?_, ?_, s.arm0, s.arm1, ?_, ?_⟩
  · show _ = some (Obj.cells #[Value.slice _ (D.pg.map _).length cap, _, _, _, _, _, _, _, _] _ _)
    rw [hl]
    exact f.heap s.top s.ne.2.1
  · show World.ownsRow _ _ _ _ (.slice _ (D.pg.map _).length cap) (D.pg.map _).length _
    rw [hl]
    exact f.ownsRow s.row fun k hk => by
      have : g = k := by simpa [Value.ownBlock] using hk
      subst this
      exact s.ne.2.2
  · intro j c h
    obtain ⟨c0, h0, rfl⟩ := hat j c h
    obtain ⟨u, h1, h2⟩ := s.fl j c0 h0
    exact ⟨u, h1, h2.keep f hP⟩
  · intro j c h
    obtain ⟨c0, h0, rfl⟩ := hat j c h
    rfl
  · intro k hk; simp [keysM] at hk
  · show 1 ≤ (D.pg.map _).length; rw [hl]; exact s.low
  · show (D.pg.map _).length ≤ 4096; rw [hl]; exact s.most

theorem getM_of {α β : Type} [DecidableEq α] {L : List (α × β)} (h : (keysM L).Nodup) {a : α} {b : β} (hm : (a, b) ∈ L) : getM L a = some b := by
  induction L with
  | nil => simp at hm
  | cons x L ih =>
    have hn : x.1 ∉ keysM L ∧ (keysM L).Nodup := by
      have : keysM (x :: L) = x.1 :: keysM L := rfl
      rw [this, List.nodup_cons] at h
      exact h
    rw [getM_cons]
    rw [List.mem_cons] at hm
    rcases hm with hm | hm
    · rw [← hm, if_pos rfl]
    · rw [if_neg fun e => hn.1 (by rw [e]; exact List.mem_map.2 ⟨_, hm, rfl⟩), ih hn.2 hm]

/-- Some that waited last now. -/
def half (l : List Pc) (left : Int → Bool) : List Pc := l.mapIdx fun i c => (bif left (i : Int) then c.1 else Pc.now c, c.2)
theorem half_at (l : List Pc) (left : Int → Bool) (i : Nat) : (half l left)[i]? = (l[i]?).map fun c => (bif left (i : Int) then c.1 else Pc.now c, c.2) := by
  unfold half
  rw [List.getElem?_mapIdx]
theorem half_all (l : List Pc) : half l (fun _ => true) = l := by
  apply List.ext_getElem?
  intro i
  rw [half_at]
  cases l[i]? with
  | none => rfl
  | some c => rfl
theorem half_len (l : List Pc) (left : Int → Bool) : (half l left).length = l.length := by unfold half; simp
theorem half_step (l : List Pc) (left : Int → Bool) (i : Nat) (c : Pc) (hc : l[i]? = some c) : half l (fun a => left a && !decide (a = (i : Int))) = (half l left).modify i (fun x => (Pc.now c, x.2)) := by
  apply List.ext_getElem?
  intro j
  rw [List.getElem?_modify, half_at, half_at]
  by_cases e : i = j
  · subst e
    rw [hc]
    simp
  · have : ¬ (j : Int) = (i : Int) := by omega
    cases l[j]? with
    | none => rfl
    | some c' => simp [this, e]

theorem half_done {l : List Pc} {left : Int → Bool} (h : ∀ (i : Nat) (c : Pc) (p : Pg), l[i]? = some c → c.2 = some p → left i = false) : (half l left).map (fun c => ((c.1, none) : Pc)) = l.map (fun c => ((Pc.now c, none) : Pc)) := by
  apply List.ext_getElem?
  intro i
  rw [List.getElem?_map, List.getElem?_map, half_at]
  cases hc : l[i]? with
  | none => rfl
  | some c =>
    have hx : (bif left (i : Int) then c.1 else Pc.now c) = Pc.now c := by
      cases hw : c.2 with
      | none =>
        have : Pc.now c = c.1 := by unfold Pc.now; rw [hw]; rfl
        rw [this]
        cases left (i : Int) <;> rfl
      | some p => rw [h i c p hc hw]; rfl
    show some ((bif left (i : Int) then c.1 else Pc.now c, none) : Pc) = some (Pc.now c, none)
    rw [hx]

set_option maxRecDepth 100000 in
theorem flush_off {w : World} {q : Nat} {K P : Nat → Prop} {D : Dv} (s : DevAt w q K P D) (hb : D.spend.off = true) :
    Calls Try.prog 36 #[.pointer (some ⟨q, 0, none⟩)] w fun e w' => e = .returned (.int .i64 4) ∧ DTo w q K P w' D.flush := by
  have he : D.flush = D.spend := by unfold Dv.flush; rw [if_pos hb]
  have hc := Lib.hid (spend_eq s true hb)
  rw [he]
  clear he hb s
  go_enter Try.func36, Try.ntmps36
  go_wp2_with fail
  refine hc.out.mono ?_
  rintro e w' ⟨rfl, t⟩
  have T := Lib.hid t
  clear t
  go_wp2_with fail
  go_ret
  exact ⟨rfl, T.out⟩

set_option maxRecDepth 100000 in
theorem flush_on {w : World} {q : Nat} {K P : Nat → Prop} {D : Dv} (s : DevAt w q K P D) (hb : D.spend.off = false) :
    Calls Try.prog 36 #[.pointer (some ⟨q, 0, none⟩)] w fun e w' => e = .returned (.int .i64 0) ∧ DTo w q K P w' D.flush := by
  have he : D.flush = D.spend.sunk := by unfold Dv.flush; rw [if_neg (by simp [hb])]
  have hc := Lib.hid (spend_eq s false hb)
  rw [he]
  generalize D.spend = E at *
  clear he hb s
  go_enter Try.func36, Try.ntmps36
  go_wp2_with fail
  refine hc.out.mono ?_
  rintro e w1 ⟨rfl, P1, ⟨g, cap, m, vals, L, s, hK, hl⟩, f1, a1, a2⟩
  have S := Lib.hid s
  have HK := Lib.hid hK
  have HL := Lib.hid hl
  have F1 := Lib.hid f1
  have A1 := Lib.hid a1
  have A2 := Lib.hid a2
  have c1 := s.cells.2.1
  clear s hK hl f1 a1 a2 hc
  go_wp2_with ((with_reducible refine wpList_rangeM rfl (.tmp 11) 97 rfl (key := Value.int .i64) (val := id) Try.underlying97 S.out.map rfl ?_); intro w2 rg2 f2)
  obtain ⟨r, hr⟩ : ∃ r, r = w1.heap.size := ⟨_, rfl⟩
  rw [← hr] at rg2 ⊢
  have RG2 := Lib.hid rg2
  have F2 := Lib.hid f2
  have HR := Lib.hid hr
  have S2 : Hid (DevIn w2 q g cap m vals L P1 { E with pg := half E.pg (fun _ => true) }) := Lib.hid (by
    rw [half_all]
    exact S.out.keep f2 (fun _ _ h => h) fun _ _ h => h)
  clear rg2 f2 hr c1
  go_frame
  go_loopw [] (fun wr => ∃ left vals', Hid (MapRg (Value.int .i64) id wr m r L left) ∧ Hid (DevIn wr q g cap m vals' L P1 { E with pg := half E.pg left }) ∧ Hid (Fr (One g) w1 wr)) (fun wr => wr.rangeLeft m r)
  case atStart => exact ⟨_, _, RG2, S2, Lib.hid F2.out.nob⟩
  case round =>
    obtain ⟨left, vals', rg, sr, fr⟩ := hrel
    clear RG2 S2 F2
    have hmost := sr.out.most
    have hlen : (half E.pg left).length = E.pg.length := half_len _ _
    have HLEN := Lib.hid hlen
    rw [show ({ E with pg := half E.pg left } : Dv).pg.length = E.pg.length from hlen] at hmost
    have hPm : ∀ k, P1 k → k ≠ m := fun k hk e => (HL.out k hk).2 ((HK.out k).2 (.inr (.inr e)))
    have hPg : ∀ k, P1 k → k ≠ g := fun k hk e => (HL.out k hk).2 ((HK.out k).2 (.inr (.inl e)))
    have HPm := Lib.hid hPm
    have HPg := Lib.hid hPg
    have hrq : q ≠ r := fun e => by
      have := lt_of_block S.out.top
      rw [e, HR.out] at this
      omega
    have hrg : g ≠ r := fun e => by
      obtain ⟨cur, hh, _⟩ := S.out.block
      have := lt_of_block hh
      rw [e, HR.out] at this
      omega
    have HRQ := Lib.hid hrq
    have HRG := Lib.hid hrg
    have NE := Lib.hid S.out.ne
    clear hlen hPm hPg hrq hrg
    go_wp2_with ((with_reducible refine wpList_nextM rfl (.tmp 12) rfl rg.out rfl ?_ ?_))
    · intro hno
      obtain ⟨_, c1, _, _, _, _, c6, _, _, fz⟩ := sr.out.cells
      have z6 := fz 6
      clear fz
      go_wp2_with ((with_reducible refine wpList_clearM (o := ⟨none, _, _, _, _, _⟩) rfl (.tmp 28) 97 rfl Try.underlying97 sr.out.map rfl ?_); intro w4 m4 f4; have c64 := f4.cell c6 (fun h => NE.out.2.1 h); have z64 := (f4.frozen (p := ⟨q, 6, none⟩) (lt_of_block sr.out.top) (fun h => NE.out.2.1 h)).trans z6)
      go_ret
      have s4 := sr.out.clearM HPm.out m4 f4
      have hpg := half_done (l := E.pg) (left := left) (fun i c p hc hp => by
        have hi : i < E.pg.length := (List.getElem?_eq_some_iff.1 hc).1
        have hw := S.out.wt i c hc
        rw [hp] at hw
        obtain ⟨v, hv, _⟩ := hw
        exact hno.out _ _ (getM_some hv))
      have top4 := s4.top
      have t := s4.to (D' := E.sunk) HK.out (fun k hk => ⟨Nat.lt_of_lt_of_le (HL.out k hk).1 (Nat.le_trans fr.out.size f4.size), (HL.out k hk).2⟩) ((Fr.refl (One q) w4).set1 (o := 6) (.int .i64 (inc E.n1))) (by
        rw [heap_setCell_same _ q 6 _ _ _ top4]
        show some (Obj.cells #[Value.slice _ ((half E.pg left).map _).length cap, _, _, _, _, _, _, _, _] _ _) = some (Obj.cells #[Value.slice _ (E.pg.map _).length cap, _, _, _, _, _, _, _, _] _ _)
        rw [hpg]
        rfl) (by
        show E.pg.map _ = (half E.pg left).map _
        rw [hpg]) s4.arm0 s4.arm1
      refine ⟨rfl, DTo.trans ((F1.out.trans fr.out fun k _ h => (HK.out k).2 (.inr (.inl h))).trans f4 fun k _ h => (HK.out k).2 (.inr (.inr h))) A1.out A2.out t⟩
    · intro a b w3 hin hleft rg3 hlt f3 hen
      have hak := sr.out.keys a (List.mem_map.2 ⟨(a, b), hin.out, rfl⟩)
      have hak2 : 0 ≤ a ∧ a < (E.pg.length : Int) := by
        have e : ({ E with pg := half E.pg left } : Dv).pg.length = E.pg.length := HLEN.out
        rw [e] at hak
        exact hak
      obtain ⟨i, rfl⟩ := Int.eq_ofNat_of_zero_le hak2.1
      have hi : i < E.pg.length := by omega
      obtain ⟨c, hc⟩ : ∃ c, E.pg[i]? = some c := ⟨_, List.getElem?_eq_getElem hi⟩
      have hgm : getM L (i : Int) = some b := getM_of S.out.map.nodup hin.out
      have hw := S.out.wt i c hc
      have hpv : PgAt w1 P1 b (Pc.now c) := by
        cases hcw : c.2 with
        | none => rw [hcw] at hw; rw [show getM L (i : Int) = none from hw] at hgm; cases hgm
        | some p =>
          rw [hcw] at hw
          obtain ⟨v, hv, hp⟩ := hw
          rw [hgm] at hv
          have : b = v := Option.some.inj hv
          rw [this]
          unfold Pc.now
          rw [hcw]
          exact hp
      obtain ⟨pa, rfl⟩ := hpv.shape
      have hf13 : Fr (fun k => k = g ∨ k = r) w1 w3 := (fr.out.mono fun k _ h => .inl h).trans f3.out fun k _ h => .inr h
      have hp3 : PgAt w3 P1 (.pointer pa) (Pc.now c) := hpv.keep hf13 fun k hk h => h.elim (fun h => HPg.out k hk h) fun h => by
        have := (HL.out k hk).1
        rw [h, HR.out] at this
        omega
      have s3 := sr.out.keep f3.out (fun k hk h => by
        have h : k = r := h
        rcases hk with e | e | e
        · exact HRQ.out (e.symm.trans h)
        · exact HRG.out (e.symm.trans h)
        · exact rg.out.ne (h.symm.trans e)) (fun k hk h => by
        have h : k = r := h
        have := (HL.out k hk).1
        rw [h, HR.out] at this
        omega)
      obtain ⟨cur, e1, e2, e3, e4, e5⟩ := s3.block
      have c0 := s3.cells.1
      have e : ({ E with pg := half E.pg left } : Dv).pg.length = E.pg.length := HLEN.out
      rw [e] at c0 e2
      have cg : w3.cell? ⟨g, i, none⟩ = some cur[i] := by
        rw [cell_of_row w3 g i _ _ _ e1]
        exact Array.getElem?_eq_getElem (by omega)
      have zg := frozen_of_row w3 g i _ _ e1
      generalize cur[i] = old at cg
      have hif : (i : Int) < (E.pg.length : Int) := by omega
      have hd : decide ((i : Int) < (E.pg.length : Int)) = true := by simpa using hi
      have S3 := Lib.hid s3
      have P3 := Lib.hid hp3
      have HC := Lib.hid hc
      clear e1 e2 e3 e4 e5 s3 hp3 hpv hw hgm hf13 hak hak2 e hc
      go_wp2_with fail
      go_roundw
      case measure =>
        have e1 := rg3.out.left_keep ((Fr.refl (One g) w3).set1 (o := i) (.pointer pa)) (fun h => NE.out.2.2 (Eq.symm h)) (fun h => HRG.out (Eq.symm h))
        rw [e1]
        exact hlt.out
      case rel =>
        have s4 := S3.out.setFl HPg.out (i := i) (by show i < (half E.pg left).length; rw [HLEN.out]; exact hi) P3.out
        refine ⟨_, vals'.set i (.pointer pa), Lib.hid (rg3.out.keep ((Fr.refl (One g) w3).set1 (o := i) (.pointer pa)) (fun h => NE.out.2.2 (Eq.symm h)) (fun h => HRG.out (Eq.symm h))), Lib.hid ?_, Lib.hid ((fr.out.trans f3.out fun k hk h => ?_).set1 _)⟩
        · rw [half_step E.pg left i c HC.out]
          exact s4
        · have h : k = r := h
          rw [h, HR.out] at hk
          omega

theorem flush_eq {w : World} {q : Nat} {K P : Nat → Prop} {D : Dv} (s : DevAt w q K P D) (b : Bool) (hb : D.spend.off = b) :
    Calls Try.prog 36 #[.pointer (some ⟨q, 0, none⟩)] w fun e w' => e = .returned (.int .i64 (errOff b)) ∧ DTo w q K P w' D.flush := by
  cases b with
  | true => exact flush_off s hb
  | false => exact flush_on s hb

end Go.Proofs.Ytpdljgjofebgpaa
