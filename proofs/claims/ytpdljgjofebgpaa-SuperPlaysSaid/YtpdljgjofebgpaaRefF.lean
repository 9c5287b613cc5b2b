/-
  The document's own device: Crash.
-/
import Derived.Test.YtpdljgjofebgpaaRefE
import Derived.Test.YtpdljgjofebgpaaFlashS
namespace Go.Proofs.Ytpdljgjofebgpaa
open Go.RowKit

theorem RefIn.setLast {w w' : World} {u gl cl gn cn gw cw : Nat} {E : Dv} (s : RefIn w u gl cl gn cn gw cw E) (f : Fr (One gl) w w') {i : Nat} {p : Pg} (hs : (E.pg.getD i (.blank, none)).2.isSome = true)
    (r : w'.ownsRow 0 148 2 (.slice (some ⟨gl, 0, none⟩) E.pg.length cl) E.pg.length (pgsV (E.lasts.set i p))) :
    RefIn w' u gl cl gn cn gw cw { E with pg := E.pg.modify i (fun x => (p, x.2)) } := by
  obtain ⟨n1, _, _, n4, _⟩ := s.nes
  have hl : (E.pg.modify i (fun x => ((p, x.2) : Pc))).length = E.pg.length := by simp
  have hi : i < E.pg.length := by
    by_cases h : i < E.pg.length
    · exact h
    · rw [List.getD_eq_getElem?_getD, List.getElem?_eq_none (by omega)] at hs
      cases hs
  rw [List.getD_eq_getElem?_getD, List.getElem?_eq_getElem hi] at hs
  have h1 : (E.pg.modify i (fun x => ((p, x.2) : Pc))).map (·.1) = E.lasts.set i p := by
    unfold Dv.lasts
    apply List.ext_getElem?
    intro j
    simp only [List.getElem?_map, List.getElem?_modify, List.getElem?_set, List.length_map]
    by_cases e : i = j
    · subst e
      rw [if_pos rfl, List.getElem?_eq_getElem hi, if_pos hi]
      simp
    · rw [if_neg e]
      cases E.pg[j]? with
      | none => rfl
      | some c => simp [e]
  have h2 : (E.pg.modify i (fun x => ((p, x.2) : Pc))).map Pc.now = E.nows := by
    unfold Dv.nows
    apply List.ext_getElem?
    intro j
    simp only [List.getElem?_map, List.getElem?_modify]
    by_cases e : i = j
    · subst e
      rw [List.getElem?_eq_getElem hi]
      have hs' : (E.pg[i]).2.isSome = true := hs
      obtain ⟨q, hq⟩ := Option.isSome_iff_exists.1 hs'
      simp [Pc.now, hq]
    · cases E.pg[j]? with
      | none => rfl
      | some c => simp [e]
  have h3 : (E.pg.modify i (fun x => ((p, x.2) : Pc))).map (·.2.isSome) = E.waitB := by
    unfold Dv.waitB
    apply List.ext_getElem?
    intro j
    simp only [List.getElem?_map, List.getElem?_modify]
    cases E.pg[j]? with
    | none => rfl
    | some c => by_cases e : i = j <;> simp [e]
  refine ⟨?_, ?_, ?_, ?_, s.ne, s.arm0, s.arm1, by show 1 ≤ (E.pg.modify i (fun x => ((p, x.2) : Pc))).length; rw [hl]; exact s.low, by show (E.pg.modify i (fun x => ((p, x.2) : Pc))).length ≤ _; rw [hl]; exact s.most⟩
  · show w'.heap[u]? = some (.cells #[.slice _ (E.pg.modify i (fun x => ((p, x.2) : Pc))).length cl, .slice _ (E.pg.modify i (fun x => ((p, x.2) : Pc))).length cn, .slice _ (E.pg.modify i (fun x => ((p, x.2) : Pc))).length cw, _, _, _, _, _, _, _] _ _)
    rw [hl]
    exact f.heap s.top fun e => n1 e.symm
  · show w'.ownsRow _ _ _ (.slice _ (E.pg.modify i (fun x => ((p, x.2) : Pc))).length cl) (E.pg.modify i (fun x => ((p, x.2) : Pc))).length (pgsV ((E.pg.modify i (fun x => ((p, x.2) : Pc))).map (·.1)))
    rw [hl, h1]
    exact r
  · show w'.ownsRow _ _ _ (.slice _ (E.pg.modify i (fun x => ((p, x.2) : Pc))).length cn) (E.pg.modify i (fun x => ((p, x.2) : Pc))).length (pgsV ((E.pg.modify i (fun x => ((p, x.2) : Pc))).map Pc.now))
    rw [hl, h2]
    exact f.ownsRow s.now fun k hk e => s.ne (by rw [own_block hk]; exact e.symm)
  · show w'.ownsRow _ _ _ (.slice _ (E.pg.modify i (fun x => ((p, x.2) : Pc))).length cw) (E.pg.modify i (fun x => ((p, x.2) : Pc))).length (boolsV ((E.pg.modify i (fun x => ((p, x.2) : Pc))).map (·.2.isSome)))
    rw [hl, h3]
    exact f.ownsRow s.wait fun k hk e => n4 (by rw [own_block hk]; exact e.symm)

theorem RefIn.store2 {w : World} {u gl cl gn cn gw cw : Nat} {E : Dv} (s : RefIn w u gl cl gn cn gw cw E) {i : Nat} (hs : (E.pg.getD i (.blank, none)).2.isSome = true) (hi : i < E.pg.length) (p : Pg) {a b : Value} (ha : a = .int .i64 (kindP p)) (hb : b = strB (txtP p)) :
    (∃ x, w.cell? ⟨gl, i * 2, none⟩ = some x) ∧ w.frozen? ⟨gl, i * 2, none⟩ = false ∧ (∃ x, (w.setCell ⟨gl, i * 2, none⟩ a).cell? ⟨gl, i * 2 + 1, none⟩ = some x) ∧ (w.setCell ⟨gl, i * 2, none⟩ a).frozen? ⟨gl, i * 2 + 1, none⟩ = false ∧
      RefIn ((w.setCell ⟨gl, i * 2, none⟩ a).setCell ⟨gl, i * 2 + 1, none⟩ b).drew u gl cl gn cn gw cw { E with pg := E.pg.modify i (fun x => (p, x.2)) } ∧ Fr (One gl) w ((w.setCell ⟨gl, i * 2, none⟩ a).setCell ⟨gl, i * 2 + 1, none⟩ b).drew := by
  have hl : i < E.lasts.length := by unfold Dv.lasts; rw [List.length_map]; exact hi
  have r1 := row_setg s.last (i * 2) a
  have r2 := row_setg r1 (i * 2 + 1) b
  have f : Fr (One gl) w ((w.setCell ⟨gl, i * 2, none⟩ a).setCell ⟨gl, i * 2 + 1, none⟩ b).drew := (((Fr.refl (One gl) w).set1 a).set1 b).drew
  refine ⟨⟨_, row_at s.last (by
    have := pgsV_at E.lasts i 0 hl (by omega)
    rw [Nat.add_zero] at this
    exact this)⟩, row_froz s.last _, ⟨_, row_at r1 (by
    rw [List.getElem?_set_ne (by omega)]
    exact pgsV_at E.lasts i 1 hl (by omega))⟩, row_froz r1 _, s.setLast f hs ?_, f⟩
  rw [ha, hb] at r2 ⊢
  rw [← pgsV_set _ _ _ hl]
  exact r2

theorem row_form {w : World} {base n size : Nat} {t : TypeId} {v : Value} {xs : List Value} (h : w.ownsRow base t size v n xs) : ∃ a c, v = .slice a n c := by
  rcases h.2 with ⟨rfl, rfl⟩ | ⟨g, cap, cur, rfl, _⟩
  · exact ⟨_, _, rfl⟩
  · exact ⟨_, _, rfl⟩
theorem fate_lt (picks : List UInt8) (k : Nat) : fate picks k < 3 := by
  unfold fate
  split
  · exact Nat.mod_lt _ (by omega)
  · omega
theorem part_snd (l : List Pc) (picks : List UInt8) (k i : Nat) : ((part l picks k).getD i (.blank, none)).2 = (l.getD i (.blank, none)).2 := by
  rw [List.getD_eq_getElem?_getD, List.getD_eq_getElem?_getD, part_at]
  cases l[i]? <;> rfl
theorem part_nows (D : Dv) (picks : List UInt8) (k : Nat) : ({ D with pg := part D.pg picks k } : Dv).nows = D.nows := by
  unfold Dv.nows
  apply List.ext_getElem?
  intro i
  simp only [List.getElem?_map, part_at]
  cases h : D.pg[i]? with
  | none => rfl
  | some c =>
    simp only [Option.map_some, Option.some.injEq]
    unfold Pc.now
    cases hc : c.2 with
    | none => simp
    | some q => rfl

set_option maxRecDepth 100000 in
set_option maxHeartbeats 8000000 in
theorem refCrash_eq {w : World} {u : Nat} {M : Nat → Prop} {D : Dv} (s : RefAt w u M D) {A : Option Addr} {pn pc : Nat} {picks : List UInt8} (hr : RdB w (.slice A pn pc) picks) (hv : 0 < pn → ∀ k, (Value.slice A pn pc).ownBlock = some k → ¬ M k) (hmx : pn ≤ 9223372036854775807) :
    Calls Try.prog 57 #[.pointer (some ⟨u, 0, none⟩), .slice A pn pc] w fun e w' => e = .returned (.tuple #[]) ∧ RfTo w u M w' (D.crash picks) := by
  obtain ⟨gl, cl, gn, cn, gw, cw, s, hM⟩ := s
  have HM := Lib.hid hM
  have S := Lib.hid s
  have PR := Lib.hid hr
  have HV := Lib.hid hv
  have WA := Lib.hid (refWaiting_in s)
  have hpn : picks.length = pn := by
    obtain ⟨a', c', he, _⟩ := hr
    simp only [Value.slice.injEq] at he
    exact he.2.1.symm
  have PN := Lib.hid hpn
  clear hM s hr hv hpn
  go_enter Try.func57, Try.ntmps57
  go_wp2_with fail
  refine WA.out.mono ?_
  rintro e w1 ⟨v, rfl, o1, f1⟩
  have O1 := Lib.hid o1
  have F1 := Lib.hid f1
  have S1 : Hid (RefIn w1 u gl cl gn cn gw cw { D with pg := part D.pg picks 0 }) := Lib.hid (by
    rw [part_zero]
    exact S.out.keep f1 fun _ _ h => h)
  clear o1 f1 WA
  go_wp2_with fail
  go_loopw [5] (fun i wr => ∃ k : Nat, k ≤ (waits D.pg).length ∧ i = .int .i64 k ∧ Hid (RefIn wr u gl cl gn cn gw cw { D with pg := part D.pg picks k }) ∧ Hid (Fr (One gl) w1 wr)) (fun i _ => (waits D.pg).length - (intOf i).toNat)
  case atStart => exact ⟨0, Nat.zero_le _, rfl, S1, Lib.hid (Fr.refl _ _)⟩
  case round =>
    clear S1
    obtain ⟨k, hk, rfl, s2, f2⟩ := hrel
    have GL := Lib.hid ((S.out.last.lt gl rfl).2)
    have PW : Hid (RdB wr (.slice A pn pc) picks) := Lib.hid (by
      by_cases h0 : 0 < pn
      · exact PR.out.keep (F1.out.nob.trans f2.out fun _ _ h => h) fun j hj e => HV.out h0 j hj ((HM.out j).2 (.inr (.inl e)))
      · have hp : picks = [] := List.length_eq_zero_iff.1 (by rw [PN.out]; omega)
        rw [hp, show pn = 0 by omega]
        exact ⟨A, pc, rfl, fun h => by simp at h⟩)
    have OW := Lib.hid (f2.out.ownsRow O1.out fun j hj e => by
      have := (O1.out.lt j hj).1
      have := GL.out
      have e : j = gl := e
      omega)
    by_cases hlt : k < (waits D.pg).length
    · have hki : (k : Int) < ((waits D.pg).length : Int) := by omega
      have hln : v.ownBlock = v.ownBlock := rfl
      obtain ⟨gi, ci, rfl⟩ := row_some OW.out (by omega)
      obtain ⟨i, hi⟩ : ∃ i, (waits D.pg)[k]? = some i := ⟨_, List.getElem?_eq_getElem hlt⟩
      have HI := Lib.hid hi
      have hkb : k < 4096 := by
        have h1 := waitsTo_le D.pg D.pg.length
        have h2 := S.out.most
        rw [waitsTo_len] at h1
        omega
      clear hln hi
      go_upto_if 18 with fail
      obtain ⟨f, hf⟩ : ∃ f, f = fate picks k := ⟨_, rfl⟩
      have HF := Lib.hid hf
      have hf3 : f < 3 := by rw [hf]; exact fate_lt _ _
      clear hf
      go_cut [6] (fun s W => s = .int .i64 (f : Int) ∧ W = wr)
      case first =>
        have hm0 := hmx
        by_cases hkp : k < pn
        · have hkpi : (k : Int) < (pn : Int) := by omega
          have hf2 : f = (picks.getD k 0).toNat % 3 := by
            rw [HF.out]
            unfold fate
            rw [if_pos (by rw [PN.out]; exact hkp)]
          obtain ⟨a', c', he, hc⟩ := PW.out
          simp only [Value.slice.injEq] at he
          obtain ⟨rfl, _, _⟩ := he
          obtain ⟨gp, op, rfl, hcell⟩ := hc (by rw [PN.out]; omega)
          have hx := hcell k (by rw [PN.out]; exact hkp)
          have hx256 : (picks.getD k 0).toNat < 256 := UInt8.toNat_lt _
          generalize (picks.getD k 0).toNat = x at hx hf2 hx256
          have HF2 := Lib.hid hf2
          clear hcell hc hf2 hkp
          go_wp2_with fail
          go_meet
          refine ⟨?_, rfl⟩
          rw [HF2.out]
          go_num
        · have hkpi : ¬ (k : Int) < (pn : Int) := by omega
          have hf2 : f = 0 := by
            rw [HF.out]
            unfold fate
            rw [if_neg (by rw [PN.out]; exact hkp)]
          subst hf2
          clear hkp
          go_wp2_with fail
          go_meet
          exact ⟨rfl, rfl⟩
      case rest =>
        obtain ⟨rfl, rfl⟩ := hcut
        have hiw := waits_mem.1 (List.mem_of_getElem? HI.out)
        obtain ⟨c, hc⟩ : ∃ c, D.pg[i]? = some c := ⟨_, List.getElem?_eq_getElem hiw.1⟩
        have hcs : c.2.isSome = true := by
          have := hiw.2
          rw [List.getD_eq_getElem?_getD, hc] at this
          exact this
        have hstep := part_step (picks := picks) HI.out hc
        have hsame := part_same (picks := picks) HI.out hc
        rw [← HF.out] at hstep hsame
        have HC := Lib.hid hc
        have HIP := Lib.hid hiw.1
        have HCS := Lib.hid hcs
        have HSM := Lib.hid hsame
        have HST := Lib.hid hstep
        clear hiw hc hcs hstep hsame
        rcases (by omega : f = 0 ∨ f = 1 ∨ f = 2) with rfl | rfl | rfl
        · have e : part D.pg picks (k + 1) = part D.pg picks k := HSM.out (by unfold pick; split <;> rfl)
          have HE := Lib.hid e
          clear e
          go_wp2_with fail
          go_roundw
          case rel =>
            refine ⟨k + 1, by omega, by go_num, ?_, f2⟩
            rw [HE.out]
            exact s2
          case measure => simp [intOf]; omega
        · obtain ⟨q0, hq0⟩ : ∃ q0, q0 = D.nows.getD i .blank := ⟨_, rfl⟩
          have HQ0 := Lib.hid hq0
          clear hq0
          have e : part D.pg picks (k + 1) = (part D.pg picks k).modify i (fun x => (q0, x.2)) := by
            obtain ⟨q, hq⟩ := Option.isSome_iff_exists.1 HCS.out
            have e1 : q0 = q := by
              rw [HQ0.out]
              unfold Dv.nows
              rw [List.getD_eq_getElem?_getD, List.getElem?_map, HC.out]
              show c.2.getD c.1 = q
              rw [hq]
              rfl
            have e2 : pick 1 c = q := by
              unfold pick
              rw [hq]
              rfl
            rw [HST.out, e1, e2]
          have HE := Lib.hid e
          have SM := Lib.hid (show (({ D with pg := part D.pg picks k } : Dv).pg.getD i (.blank, none)).2.isSome = true by
            show ((part D.pg picks k).getD i (.blank, none)).2.isSome = true
            rw [part_snd, List.getD_eq_getElem?_getD, HC.out]
            exact HCS.out)
          have SD := s2.out.keep ((Fr.refl Nob wc).drew) fun _ _ h => h
          have hip : i < (part D.pg picks k).length := by rw [part_len]; exact HIP.out
          have hii : (i : Int) < ((part D.pg picks k).length : Int) := by omega
          obtain ⟨⟨y0, v0⟩, z0, ⟨y1, v1⟩, z1, s3, f3⟩ := s2.out.store2 SM.out hip q0 (a := .int .i64 (kindP q0)) (b := .string ⟨(txtP q0).toArray⟩) rfl rfl
          have S3 := Lib.hid s3
          have F3 := Lib.hid f3
          have b0 : wc.drew.cell? ⟨u, 0, none⟩ = _ := SD.cells.1
          have w0 : wc.drew.cell? ⟨gi, k, none⟩ = some (.int .i64 (i : Int)) := row_at OW.out (natsV_at HI.out)
          have v0d : wc.drew.cell? ⟨gl, i * 2, none⟩ = some y0 := v0
          have z0d : wc.drew.frozen? ⟨gl, i * 2, none⟩ = false := z0
          have v1d : (wc.setCell ⟨gl, i * 2, none⟩ (.int .i64 (kindP q0))).drew.cell? ⟨gl, i * 2 + 1, none⟩ = some y1 := v1
          have z1d : (wc.setCell ⟨gl, i * 2, none⟩ (.int .i64 (kindP q0))).drew.frozen? ⟨gl, i * 2 + 1, none⟩ = false := z1
          have b1 : wc.drew.cell? ⟨u, 1, none⟩ = _ := SD.cells.2.1
          have hnl : i < D.nows.length := by unfold Dv.nows; rw [List.length_map]; exact HIP.out
          have t0 : wc.drew.cell? ⟨gn, i * 2, none⟩ = some (.int .i64 (kindP q0)) := row_at SD.now (by
            have := pgsV_at D.nows i 0 hnl (by omega)
            rw [Nat.add_zero] at this
            rw [part_nows, HQ0.out]
            exact this)
          have t1 : wc.drew.cell? ⟨gn, i * 2 + 1, none⟩ = some (.string ⟨(txtP q0).toArray⟩) := row_at SD.now (by
            rw [part_nows, HQ0.out]
            exact pgsV_at D.nows i 1 hnl (by omega))
          clear hnl
          clear e v0 z0 v1 z1 s3 f3 SD hip
          go_wp2_with fail
          go_still_tail 19, (by kernel_rfl)
          change wpList _ _ _ _ _ wc.drew
          go_wp2_with fail
          go_roundw
          case rel =>
            refine ⟨k + 1, by omega, by go_num, ?_, Lib.hid (f2.out.trans' F3.out)⟩
            rw [HE.out]
            exact S3
          case measure => simp [intOf]; omega
        · have e : part D.pg picks (k + 1) = (part D.pg picks k).modify i (fun x => (Pg.torn, x.2)) := by
            obtain ⟨q, hq⟩ := Option.isSome_iff_exists.1 HCS.out
            have e2 : pick 2 c = .torn := by
              unfold pick
              rw [hq]
              rfl
            rw [HST.out, e2]
          have HE := Lib.hid e
          have SM := Lib.hid (show (({ D with pg := part D.pg picks k } : Dv).pg.getD i (.blank, none)).2.isSome = true by
            show ((part D.pg picks k).getD i (.blank, none)).2.isSome = true
            rw [part_snd, List.getD_eq_getElem?_getD, HC.out]
            exact HCS.out)
          have SD := s2.out.keep ((Fr.refl Nob wc).drew) fun _ _ h => h
          have hip : i < (part D.pg picks k).length := by rw [part_len]; exact HIP.out
          have hii : (i : Int) < ((part D.pg picks k).length : Int) := by omega
          obtain ⟨⟨y0, v0⟩, z0, ⟨y1, v1⟩, z1, s3, f3⟩ := s2.out.store2 SM.out hip (Pg.torn) (a := .int .i64 2) (b := .string ⟨#[]⟩) rfl rfl
          have S3 := Lib.hid s3
          have F3 := Lib.hid f3
          have b0 : wc.drew.cell? ⟨u, 0, none⟩ = _ := SD.cells.1
          have w0 : wc.drew.cell? ⟨gi, k, none⟩ = some (.int .i64 (i : Int)) := row_at OW.out (natsV_at HI.out)
          have v0d : wc.drew.cell? ⟨gl, i * 2, none⟩ = some y0 := v0
          have z0d : wc.drew.frozen? ⟨gl, i * 2, none⟩ = false := z0
          have v1d : (wc.setCell ⟨gl, i * 2, none⟩ (.int .i64 2)).drew.cell? ⟨gl, i * 2 + 1, none⟩ = some y1 := v1
          have z1d : (wc.setCell ⟨gl, i * 2, none⟩ (.int .i64 2)).drew.frozen? ⟨gl, i * 2 + 1, none⟩ = false := z1
          clear e v0 z0 v1 z1 s3 f3 SD hip
          go_wp2_with fail
          go_still_tail 10, (by kernel_rfl)
          change wpList _ _ _ _ _ wc.drew
          go_wp2_with fail
          go_roundw
          case rel =>
            refine ⟨k + 1, by omega, by go_num, ?_, Lib.hid (f2.out.trans' F3.out)⟩
            rw [HE.out]
            exact S3
          case measure => simp [intOf]; omega
    · have : k = (waits D.pg).length := by omega
      subst this
      obtain ⟨va, vc, rfl⟩ := row_form OW.out
      obtain ⟨E, hE⟩ : ∃ E : Dv, E = { D with pg := part D.pg picks (waits D.pg).length } := ⟨_, rfl⟩
      rw [← hE] at s2
      have HE := Lib.hid hE
      have SD := Lib.hid (s2.out.keep ((Fr.refl Nob wr).drew) fun _ _ h => h)
      have FM : Hid (Fr M w wr) := Lib.hid (F1.out.nob.trans f2.out fun i _ e => (HM.out i).2 (.inr (.inl e)))
      have F3 := Lib.hid FM.out.drew
      obtain ⟨c0, c1, _⟩ := SD.out.cells
      clear hE s2 f2 OW PW
      go_wp2_with fail
      go_still_tail 8, (by kernel_rfl)
      change wpList _ _ _ _ _ wr.drew
      go_wp2_with (with_reducible refine wpList_copyG (o := ⟨some 67, _, _, _, _, _⟩) rfl (.tmp 62) (.tmp 66) 122 122 rfl 148 2 Try.underlying122 page_size 0 gn gl E.pg.length cn cl rfl rfl (pgsV E.nows) (pgsV E.lasts) SD.out.now SD.out.last (pgsV_one _) ?_)
      intro w2 r2 f2
      have B2 := Lib.hid (SD.out.backN f2.out r2.out)
      have F2 : Hid (Fr M w w2) := Lib.hid (F3.out.trans f2.out fun i _ e => (HM.out i).2 (.inr (.inr (.inl e))))
      obtain ⟨n, hn⟩ : ∃ n, n = E.backN.pg.length := ⟨_, rfl⟩
      have hmost := B2.out.most
      have HB2 := Lib.hid (backN_eq E)
      clear r2 f2 SD c0 c1
      obtain ⟨_, e1, _, _, _, e5, _, _, _, _, fz⟩ := B2.out.cells
      rw [← hn] at e1 hmost
      have HN := Lib.hid hn
      clear hn
      go_wp2_with (with_reducible refine wpList_make_all (o := ⟨some 74, _, _, _, _, _⟩) rfl (.tmp 73) (.tmp 73) 123 rfl 4 #[.bool false] 1 1 Try.underlying123 bool_info .i64 .i64 n rfl rfl (by omega) (by omega) ?_)
      intro cs hcs
      have FC := Lib.hid (B2.out.clear HB2.out (cs := cs) (by rw [← HN.out, Nat.mul_one]; exact hcs.out))
      rw [← HN.out] at FC
      have fa := (Fr.refl Nob w2).alloc (.cells cs 4)
      have hu := lt_of_block B2.out.top
      have t5 := fa.cell e5 fun h => h
      have z2 := (fa.frozen (p := ⟨u, 2, none⟩) hu fun h => h).trans (fz 2)
      have z3 := (fa.frozen (p := ⟨u, 3, none⟩) hu fun h => h).trans (fz 3)
      have z5 := (fa.frozen (p := ⟨u, 5, none⟩) hu fun h => h).trans (fz 5)
      have t2 := fa.cell B2.out.cells.2.2.1 fun h => h
      have t3 := fa.cell B2.out.cells.2.2.2.1 fun h => h
      clear hcs e1 e5 fz fa hu hmost
      go_upto_region 16 with fail
      have f3 := ((Fr.refl (One u) ((w2.alloc (.cells cs 4)).setCell ⟨u, 2, none⟩ (.slice (some ⟨w2.heap.size, 0, none⟩) n n))).set1 (o := 3) (.bool true)).set1 (o := 5) (.int .i64 (wrap64 (E.backN.loss + 1)))
      have S3 := Lib.hid (FC.out.1.retop (D' := { E.backN.noWait with off := true, loss := inc E.loss }) f3 (by
        rw [heap_setCell_same _ u 5 _ _ _ (heap_setCell_same _ u 3 _ _ _ FC.out.1.top)]
        rfl) rfl FC.out.1.arm0 FC.out.1.arm1)
      have F4 := Lib.hid (FC.out.2.trans' f3)
      clear f3 t5 z2 z3 z5 t2 t3 FC
      generalize (((w2.alloc (.cells cs 4)).setCell ⟨u, 2, none⟩ (.slice (some ⟨w2.heap.size, 0, none⟩) n n)).setCell ⟨u, 3, none⟩ (.bool true)).setCell ⟨u, 5, none⟩ (.int .i64 (wrap64 (E.backN.loss + 1))) = w3 at *
      have SD3 := S3.out.keep ((Fr.refl Nob w3).drew) fun _ _ h => h
      have d9 := SD3.cells.2.2.2.2.2.2.2.2.2.1
      have z9 := SD3.cells.2.2.2.2.2.2.2.2.2.2 9
      clear SD3
      go_still_tail 9, (by kernel_rfl)
      change wpList _ _ _ _ _ w3.drew
      go_wp2_with fail
      go_end0
      have f5 := ((Fr.refl (One u) w3).set1 (o := 9) (.int .i64 (inc E.n3))).drew
      have hpg : E.backN.noWait.pg = settled D.pg picks := by
        rw [backN_noWait, HE.out]
        exact part_done D.pg picks
      refine ⟨rfl, _, ⟨gl, cl, gn, cn, w2.heap.size, n, S3.out.retop (D' := D.crash picks) f5 ?_ ?_ ?_ ?_, fun k => Iff.rfl⟩, F2.out.trans (F4.out.trans' f5) fun i _ e => (HM.out i).2 (.inl e), ?_⟩
      · show (w3.setCell ⟨u, 9, none⟩ (.int .i64 (inc E.n3))).heap[u]? = _
        rw [heap_setCell_same _ u 9 _ _ _ S3.out.top]
        have e : (D.crash picks).pg.length = E.backN.noWait.pg.length := by
          rw [hpg]
          rfl
        rw [e, HE.out]
        rfl
      · exact hpg.symm
      · have := S3.out.arm0
        rw [HE.out] at this
        exact this
      · have := S3.out.arm1
        rw [HE.out] at this
        exact this
      · intro k hk
        rcases hk with h | h | h | h
        · exact .inl ((HM.out k).2 (.inl h))
        · exact .inl ((HM.out k).2 (.inr (.inl h)))
        · exact .inl ((HM.out k).2 (.inr (.inr (.inl h))))
        · right
          rw [h]
          exact F2.out.size

end Go.Proofs.Ytpdljgjofebgpaa
