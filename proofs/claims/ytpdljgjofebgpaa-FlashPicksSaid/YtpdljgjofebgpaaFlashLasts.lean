/-
  Law 3: FlashLasts, walked.
-/
import Derived.Test.YtpdljgjofebgpaaRefK
import Derived.Test.YtpdljgjofebgpaaFlashNew
namespace Go.Proofs.Ytpdljgjofebgpaa
open Go.RowKit Go.ChangeShapes Go.WideShapes Go.Deep

/-- A []Act that came in: op, page and the slice of each; its bytes. -/
structure ActRow (w : World) (A : Option Addr) (n : Nat) (z : Nat → Int × Int × Option Addr × Nat × Nat) (l : Nat → List UInt8) : Prop where
  rows : ArgRows w 3 A n fun i => [.int .i64 (z i).1, .int .i64 (z i).2.1, .slice (z i).2.2.1 (z i).2.2.2.1 (z i).2.2.2.2]
  el : ∀ i, i < n → (Lit.int .i64 (z i).2.1).wf = true ∧ RdB w (.slice (z i).2.2.1 (z i).2.2.2.1 (z i).2.2.2.2) (l i) ∧ (0 < (z i).2.2.2.1 → ∀ k, (Value.slice (z i).2.2.1 (z i).2.2.2.1 (z i).2.2.2.2).ownBlock = some k → k < w.heap.size) ∧ (z i).2.2.2.1 ≤ 140737488355328

theorem ActRow.cell {w w' : World} {A : Option Addr} {n : Nat} {z : Nat → Int × Int × Option Addr × Nat × Nat} {l : Nat → List UInt8} (h : ActRow w A n z l) (f : Fr Nob w w') {i : Nat} (hi : i < n) :
    ∃ b o, A = some ⟨b, o, none⟩ ∧ w'.cell? ⟨b, o + i * 3, none⟩ = some (.int .i64 (z i).1) ∧ w'.cell? ⟨b, o + i * 3 + 1, none⟩ = some (.int .i64 (z i).2.1) ∧ w'.cell? ⟨b, o + i * 3 + 2, none⟩ = some (.slice (z i).2.2.1 (z i).2.2.2.1 (z i).2.2.2.2) := by
  obtain ⟨b, o, hA, hb, hc⟩ := (h.rows.keep f) (by omega)
  have k := (hc i hi).2
  exact ⟨b, o, hA, k 0 (by omega), k 1 (by omega), k 2 (by omega)⟩

set_option maxRecDepth 100000 in
set_option maxHeartbeats 8000000 in
theorem flashLasts_main (pages page : Nat) (A : Option Addr) (n cap : Nat) (z : Nat → Int × Int × Option Addr × Nat × Nat) (l : Nat → List UInt8) (PA : Option Addr) (pn pc : Nat) (pl : List UInt8) (B : Option Addr) (m capb : Nat) (y : Nat → Int × Int × Option Addr × Nat × Nat) (r : Nat → List UInt8)
    (w : World) (hz : ActRow w A n z l) (hpi : InB w PA pn pc pl) (hy : ActRow w B m y r) (h1 : 1 ≤ pages) (h20 : pages ≤ 20) (hp : page < pages) (hn : pn ≤ 384) (hln : n ≤ 30) (hlm : m ≤ 30) :
    Calls Try.prog 10 #[.int .i64 pages, .slice A n cap, .int .i64 page, .slice PA pn pc, .slice B m capb] w fun e w' => e = .returned (.bool true) ∧ Fr Nob w w' := by
  have PI := Lib.hid hpi
  have Z := Lib.hid hz
  have Y := Lib.hid hy
  have e1 : ¬ (pages : Int) < 1 := by omega
  have e2 : ¬ (20 : Int) < (pages : Int) := by omega
  have e3 : ¬ (page : Int) < 0 := by omega
  have e4 : ¬ (pages : Int) ≤ (page : Int) := by omega
  have e5 : ¬ (384 : Int) < (pn : Int) := by omega
  have e6 : ¬ (30 : Int) < (n : Int) := by omega
  have e7 : ¬ (30 : Int) < (m : Int) := by omega
  clear hpi hz hy
  go_enter Try.func10, Try.ntmps10
  go_wp2_with fail
  refine (awake3_eq w).mono ?_
  rintro e w0 ⟨rfl, f0⟩
  have F0 := Lib.hid f0
  clear f0
  go_wp2_with fail
  refine (DL.new (n := pages) F0.out (by omega) (by omega)).mono ?_
  rintro e w1 ⟨q, K, rfl, d, _, _⟩
  have D1 := Lib.hid d
  have NW := Lib.hid (refNew_eq (w := w1) (n := pages) (by omega) (by omega))
  clear d
  go_wp2_with fail
  refine NW.out.mono ?_
  rintro e w2 ⟨u, M, rfl, rf, f2, hM⟩
  have T2 : Hid (Two w w2 q K u M (Dv.new pages) (Dv.new pages)) := Lib.hid ⟨D1.out.more f2 fun k hk => .inr ⟨hM k hk, rf.lt k hk⟩, rf, fun k hk hkk => by
    have := D1.out.klt k hkk
    have := hM k hk
    omega, fun k hk => by
    have := D1.out.fr.size
    have := hM k hk
    omega⟩
  have L2 : Hid ((Dv.new pages).pg.length = pages) := Lib.hid (by unfold Dv.new; simp)
  clear rf f2 hM NW
  go_wp2_with fail
  go_loopw [14] (fun i wr => ∃ (k : Nat) (M' : Nat → Prop) (D E : Dv), k ≤ n ∧ i = .int .i64 k ∧ Hid (Two w wr q K u M' D E) ∧ Hid (D.pg.length = pages)) (fun i _ => n - (intOf i).toNat)
  case atStart => exact ⟨0, M, _, _, Nat.zero_le _, rfl, T2, L2⟩
  case round =>
    clear T2 L2
    obtain ⟨k, M', D, E, hk, rfl, T3, L3⟩ := hrel
    by_cases hlt : k < n
    · have hki : (k : Int) < (n : Int) := by omega
      obtain ⟨b, o, rfl, c0, c1, c2⟩ := Z.out.cell T3.out.dl.fr hlt
      obtain ⟨x1, x2, x3, x4⟩ := Z.out.el k hlt
      have BO := Lib.hid (both_eq T3.out (z k).1 (z k).2.1 x1 _ _ _ _ x2 x3 x4)
      have HL : Hid ((actD D (z k).1 (z k).2.1 (l k)).pg.length = pages) := Lib.hid (by rw [act_len]; exact L3.out)
      clear x1 x2 x3 x4
      generalize (z k).1 = v0 at *
      generalize (z k).2.1 = v1 at *
      generalize (z k).2.2.1 = v2 at *
      generalize (z k).2.2.2.1 = v3 at *
      generalize (z k).2.2.2.2 = v4 at *
      go_wp2_with fail
      refine BO.out.mono ?_
      rintro e w5 ⟨r5, M5, rfl, t5⟩
      have T5 := Lib.hid t5
      clear t5 BO c0 c1 c2
      go_wp2_with fail
      go_roundw
      case rel => exact ⟨k + 1, M5, _, _, by omega, by go_num, T5, HL⟩
      case measure => simp [intOf]; omega
    · have : k = n := by omega
      subst this
      have ON := Lib.hid T3.out.dl.on
      go_wp2_with fail
      refine ON.out.mono ?_
      rintro e w5 ⟨rfl, d5, f5⟩
      have T5 := Lib.hid (T3.out.dev d5 f5)
      have L5 : Hid (D.on.pg.length = pages) := Lib.hid (by
        show (settled D.pg []).length = pages
        rw [settled_len]
        exact L3.out)
      have ST := Lib.hid (Lasting.start (D := D.on) rfl (Int.le_refl 0) (i := page) (by rw [L5.out]; exact hp) (.whole (pad pl)))
      have WR := Lib.hid (T5.out.dl.write (i := page) (by rw [L5.out]; exact hp) (PI.out.rd.nob T5.out.dl.fr) (by rw [PI.out.len]; exact hn) false ST.out.2.1)
      clear d5 f5 ON T3
      go_wp2_with fail
      refine WR.out.mono ?_
      rintro e w6 ⟨rfl, d6, f6⟩
      rw [errOff_false]
      have T6 := Lib.hid (T5.out.dev d6 f6)
      have FL := Lib.hid (T6.out.dl.flush false ST.out.2.2)
      clear d6 f6 WR T5
      go_wp2_with fail
      refine FL.out.mono ?_
      rintro e w7 ⟨rfl, d7, f7⟩
      rw [errOff_false]
      have T7 := Lib.hid (T6.out.dev d7 f7)
      have S7 := Lib.hid ST.out.1
      have L7 : Hid ((D.on.change page (.whole (pad pl))).flush.pg.length = pages) := Lib.hid (by rw [flush_len, change_len]; exact L5.out)
      generalize (D.on.change page (.whole (pad pl))).flush = D7 at *
      clear d7 f7 FL T6 ST
      go_wp2_with fail
      go_loopw [15] (fun i wr2 => ∃ (k : Nat) (M' : Nat → Prop) (D E : Dv), k ≤ m ∧ i = .int .i64 k ∧ Hid (Two w wr2 q K u M' D E) ∧ Hid (Lasting D page (.whole (pad pl)))) (fun i _ => m - (intOf i).toNat)
      case atStart => exact ⟨0, _, _, _, Nat.zero_le _, rfl, T7, S7⟩
      case round =>
        clear T7 S7 L7
        obtain ⟨k2, M8, D8, E8, hk2, rfl, T8, S8⟩ := hrel
        by_cases hlt2 : k2 < m
        · have hki : (k2 : Int) < (m : Int) := by omega
          obtain ⟨b, o, rfl, c0, c1, c2⟩ := Y.out.cell T8.out.dl.fr hlt2
          obtain ⟨x1, x2, x3, x4⟩ := Y.out.el k2 hlt2
          have BO := Lib.hid (both_eq T8.out (y k2).1 (y k2).2.1 x1 _ _ _ _ x2 x3 x4)
          have HS : Hid (¬ (((y k2).1 = 0 ∨ (y k2).1 = 1) ∧ (y k2).2.1 = page) → Lasting (actD D8 (y k2).1 (y k2).2.1 (r k2)) page (.whole (pad pl))) := Lib.hid fun h => S8.out.act _ _ _ h
          clear x1 x2 x3 x4
          generalize (y k2).1 = v0 at *
          generalize (y k2).2.1 = v1 at *
          generalize (y k2).2.2.1 = v2 at *
          generalize (y k2).2.2.2.1 = v3 at *
          generalize (y k2).2.2.2.2 = v4 at *
          by_cases hv0 : v0 < 2
          · by_cases hv1 : v1 = (page : Int)
            · go_wp2_with fail
              go_roundw
              case rel => exact ⟨k2 + 1, _, _, _, by omega, by go_num, T8, S8⟩
              case measure => simp [intOf]; omega
            · have S9 := Lib.hid (HS.out fun h => hv1 h.2)
              go_wp2_with fail
              refine BO.out.mono ?_
              rintro e w9 ⟨r9, M9, rfl, t9⟩
              have T9 := Lib.hid t9
              clear t9 BO c0 c1 c2
              go_wp2_with fail
              go_roundw
              case rel => exact ⟨k2 + 1, M9, _, _, by omega, by go_num, T9, S9⟩
              case measure => simp [intOf]; omega
          · have S9 := Lib.hid (HS.out fun h => by omega)
            go_wp2_with fail
            refine BO.out.mono ?_
            rintro e w9 ⟨r9, M9, rfl, t9⟩
            have T9 := Lib.hid t9
            clear t9 BO c0 c1 c2
            go_wp2_with fail
            go_roundw
            case rel => exact ⟨k2 + 1, M9, _, _, by omega, by go_num, T9, S9⟩
            case measure => simp [intOf]; omega
        · have : k2 = m := by omega
          subst this
          have CR := Lib.hid (T8.out.dl.crash (v := .slice none 0 0) (picks := []) (RdB.nil _ 0) (by simp) (fun j h => by cases h))
          have S10 := Lib.hid (S8.out.crash []).on
          clear T8 S8
          go_wp2_with fail
          refine CR.out.mono ?_
          rintro e w9 ⟨rfl, d9, _⟩
          have ON2 := Lib.hid d9.on
          clear d9 CR
          go_wp2_with fail
          refine ON2.out.mono ?_
          rintro e w10 ⟨rfl, d10, _⟩
          have hpl10 : page < (D8.crash []).on.pg.length := by
            have h : (D8.crash []).on.pg[page]? = some (.whole (pad pl), none) := S10.out
            exact (List.getElem?_eq_some_iff.1 h).1
          have RE := Lib.hid (d10.read_whole (i := page) hpl10 rfl S10.out.now)
          clear d10 ON2 hpl10
          go_wp2_with fail
          refine RE.out.mono ?_
          rintro e w11 ⟨vx, rfl, ox, hpl, dx, _⟩
          obtain ⟨gx, cx, rfl, hcx⟩ := row_someB ox (by omega)
          have LN := Lib.hid PI.out.len
          have rx : RdB w11 (.slice (some ⟨gx, 0, none⟩) 384 cx) (pad pl) := by
            have h := ox
            rw [← hpl] at h ⊢
            exact RdB.of_row h
          have rx2 : RdB w11 (.slice (some ⟨gx, 0, none⟩) pn cx) pl := by
            have h := rx.head (k := pl.length) (by rw [hpl, LN.out]; exact hn)
            rw [pad_take, LN.out] at h
            exact h
          have CV1 : ∀ nq, (convert 34 9 (.slice (some ⟨gx, 0, none⟩) pn cx)).run Try.prog (w11.drewN nq) = .ok (.string ⟨pl.toArray⟩) (w11.drewN nq) := fun nq =>
            (rx2.nob ((Fr.refl Nob w11).drewN nq)).text _ _ _ Try.underlying34 Try.underlying5 Try.underlying9
          have CV2 : ∀ nq, (convert 34 9 (.slice PA pn pc)).run Try.prog (w11.drewN nq) = .ok (.string ⟨pl.toArray⟩) (w11.drewN nq) := fun nq =>
            (PI.out.rd.nob (dx.fr.drewN nq)).text _ _ _ Try.underlying34 Try.underlying5 Try.underlying9
          have FE := Lib.hid dx.fr
          have s1 : (0 : Int) ≤ (pn : Int) := by omega
          have s2 : (pn : Int) ≤ (cx : Int) := by omega
          have s3 : (pn : Int) ≤ (384 : Int) := by omega
          clear RE rx rx2 ox dx hpl
          go_wp2_with fail
          go_quiet (fail)
          go_wp2_with fail
          go_ret
          exact ⟨rfl, FE.out.drewN _⟩

set_option maxRecDepth 100000 in
set_option maxHeartbeats 4000000 in
theorem flashLasts_walk (p : Int) (A : Option Addr) (n cap : Nat) (zl : (Nat → Int × Int × Option Addr × Nat × Nat) × (Nat → List UInt8)) (pg : Int) (PA : Option Addr) (pn pc : Nat) (pl : List UInt8) (B : Option Addr) (m capb : Nat) (yr : (Nat → Int × Int × Option Addr × Nat × Nat) × (Nat → List UInt8))
    (w : World) (_ : (Lit.int .i64 p).wf = true) (hz : ActRow w A n zl.1 zl.2) (_ : (Lit.int .i64 pg).wf = true) (hpi : InB w PA pn pc pl) (hy : ActRow w B m yr.1 yr.2) :
    Calls Try.prog 10 #[.int .i64 p, .slice A n cap, .int .i64 pg, .slice PA pn pc, .slice B m capb] w fun e w' => e = .returned (.bool true) ∧ Fr Nob w w' := by
  by_cases h : (1 ≤ p ∧ p ≤ 20) ∧ (n ≤ 30 ∧ m ≤ 30) ∧ pn ≤ 384 ∧ 0 ≤ pg ∧ pg < p
  · obtain ⟨k, rfl⟩ := Int.eq_ofNat_of_zero_le (a := p) (by omega)
    obtain ⟨j, rfl⟩ := Int.eq_ofNat_of_zero_le (a := pg) (by omega)
    exact flashLasts_main k j A n cap zl.1 zl.2 PA pn pc pl B m capb yr.1 yr.2 w hz hpi hy (by omega) (by omega) (by omega) (by omega) (by omega) (by omega)
  · have hg : (decide (p < 1) || decide (20 < p) || decide ((30 : Int) < (n : Int)) || decide ((30 : Int) < (m : Int)) || decide ((384 : Int) < (pn : Int)) || decide (pg < 0) || decide (p ≤ pg)) = true := by
      simp only [Bool.or_eq_true, decide_eq_true_eq]
      omega
    clear h hpi hz hy
    go_enter Try.func10, Try.ntmps10
    go_wp2_with fail
    refine (awake3_eq w).mono ?_
    rintro e w0 ⟨rfl, f0⟩
    have F0 := Lib.hid f0
    clear f0
    go_wp2_with fail
    all_goals
      go_ret
      exact ⟨rfl, F0.out⟩

end Go.Proofs.Ytpdljgjofebgpaa
