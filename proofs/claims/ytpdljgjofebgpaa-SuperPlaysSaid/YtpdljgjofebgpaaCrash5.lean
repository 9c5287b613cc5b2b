/-
  flash: Crash whose picks may be an empty slice of whatever address. (Printed by gen/crash5.py.)
-/
import Derived.Test.YtpdljgjofebgpaaFlashL
namespace Go.Proofs.Ytpdljgjofebgpaa
open Go.RowKit

set_option maxRecDepth 100000 in
set_option maxHeartbeats 1000000 in
theorem settle5_eq {w : World} {q : Nat} {K P : Nat → Prop} {D : Dv} (s : DevAt w q K P D) {v : Value} {picks : List UInt8} (hr : RdB w v picks) (hn : picks.length ≤ 9223372036854775807) (hv : 0 < picks.length → ∀ k, v.ownBlock = some k → ¬ K k) :
    Calls Try.prog 81 #[.pointer (some ⟨q, 0, none⟩), v] w fun e w' => e = .returned (.tuple #[]) ∧ DTo w q K P w' (D.settle picks) := by
  have hc := Lib.hid (waiting_eq s)
  have SS := Lib.hid s
  have RR := Lib.hid hr
  obtain ⟨a, pc, rfl, _⟩ := hr
  have HV := Lib.hid hv
  clear s hv
  go_enter Try.func81, Try.ntmps81
  go_wp2_with fail
  refine hc.out.mono ?_
  rintro e w1 ⟨v1, rfl, own1, f1⟩
  obtain ⟨g, cap, m, vals, L, s, hK, hl⟩ := SS.out.nob f1
  have S := Lib.hid s
  have HK := Lib.hid hK
  have HL := Lib.hid hl
  have F1 := Lib.hid f1
  have OWN1 := Lib.hid own1
  have R1 := Lib.hid (RR.out.nob f1)
  have hwl : (waits D.pg).length ≤ 4096 := by
    have h3 : (waits D.pg).length ≤ D.pg.length := by
      unfold waits
      exact Nat.le_trans (List.length_filter_le _ _) (by simp)
    have := s.most
    omega
  obtain ⟨a1, cap1, rfl⟩ : ∃ a1 cap1, v1 = .slice a1 (waits D.pg).length cap1 := by
    rcases own1.2 with ⟨rfl, h0⟩ | ⟨g1, cap1, _, rfl, _⟩
    · exact ⟨none, 0, by rw [h0]⟩
    · exact ⟨_, cap1, rfl⟩
  have st : SetSo w1 q g cap m L K P D (part D.pg picks 0) w1 := ⟨vals, P, by rw [part_zero]; exact s, Fr.refl _ _, fun _ h => h, fun _ h => .inl h, hl⟩
  have ST := Lib.hid st
  clear hK hl s own1 f1 st hc RR
  go_wp2_with fail
  go_loopw [10] (fun n wr => ∃ k : Nat, k ≤ (waits D.pg).length ∧ n = .int .i64 k ∧ Hid (SetSo w1 q g cap m L K P D (part D.pg picks k) wr)) (fun n _ => (waits D.pg).length - (Lib.intOf n).toNat)
  case atStart => exact ⟨0, by omega, rfl, ST⟩
  case round =>
    clear ST
    obtain ⟨k, hk, rfl, st⟩ := hrel
    obtain ⟨vals', P', sr, fr, p1, p2, p3⟩ := st.out
    have SR := Lib.hid sr
    have FR := Lib.hid fr
    have A1 := Lib.hid p1
    have A2 := Lib.hid p2
    have A3 := Lib.hid p3
    have HPg : Hid (∀ k, P' k → k ≠ g) := Lib.hid fun k hk e => (p3 k hk).2 ((HK.out k).2 (.inr (.inl e)))
    have HPm : Hid (∀ k, P' k → k ≠ m) := Lib.hid fun k hk e => (p3 k hk).2 ((HK.out k).2 (.inr (.inr e)))
    by_cases hlt : k < (waits D.pg).length
    · obtain ⟨i, hi⟩ : ∃ i, (waits D.pg)[k]? = some i := ⟨_, List.getElem?_eq_getElem hlt⟩
      have him := waits_mem.1 (List.mem_of_getElem? hi)
      obtain ⟨c, hcc⟩ : ∃ c, D.pg[i]? = some c := ⟨_, List.getElem?_eq_getElem him.1⟩
      have hil := him.1
      have hcs : c.2.isSome = true := by
        have := him.2
        rw [List.getD_eq_getElem?_getD, hcc] at this
        exact this
      obtain ⟨p, hp⟩ := Option.isSome_iff_exists.1 hcs
      have hgw : g < w.heap.size := SS.out.lt g ((HK.out g).2 (.inr (.inl rfl)))
      have hrow := FR.out.ownsRow OWN1.out fun b hb h => by
        have hb2 := (OWN1.out.lt b hb).1
        have h : b = g := h
        omega
      obtain ⟨b1, rfl⟩ : ∃ b1, a1 = some ⟨b1, 0, none⟩ := by
        rcases hrow.2 with ⟨_, h⟩ | ⟨g1, cap', _, h, _⟩
        · omega
        · simp only [Value.slice.injEq] at h
          exact ⟨g1, h.1⟩
      have hcell : wr.cell? ⟨b1, k, none⟩ = some (.int .i64 (i : Int)) := by
        have := hrow.cells (g := b1) rfl k _ (natsV_at hi)
        have hadd : (⟨b1, 0, none⟩ : Addr).add k = ⟨b1, k, none⟩ := by unfold Addr.add; split <;> simp_all
        rwa [hadd] at this
      have hrd : RdB wr (.slice a picks.length pc) picks := by
        by_cases h0 : 0 < picks.length
        · exact R1.out.keep FR.out fun b hb h => HV.out h0 b hb ((HK.out b).2 (.inr (.inl h)))
        · have hp : picks = [] := List.length_eq_zero_iff.1 (by omega)
          rw [hp]
          exact ⟨a, pc, rfl, fun h => by simp at h⟩
      obtain ⟨c0, c1, _⟩ := sr.cells
      have hlen : ({ D with pg := part D.pg picks k } : Dv).pg.length = D.pg.length := part_len _ _ _
      have hlp : i < (part D.pg picks k).length := by rw [part_len]; exact hil
      rw [hlen] at c0
      have hmost := S.out.most
      obtain ⟨cur, e1, e2, e3, e4, e5⟩ := sr.block
      rw [hlen] at e2
      have cg : wr.cell? ⟨g, i, none⟩ = some cur[i] := by
        rw [cell_of_row wr g i _ _ _ e1]
        exact Array.getElem?_eq_getElem (by omega)
      have zg := frozen_of_row wr g i _ _ e1
      generalize cur[i] = old at cg
      have hd : decide ((i : Int) < (D.pg.length : Int)) = true := by simpa using hil
      have hki : (k : Int) < ((waits D.pg).length : Int) := by omega
      have hii : (i : Int) < (D.pg.length : Int) := by omega
      have HI := Lib.hid hi
      have HCC := Lib.hid hcc
      have HP := Lib.hid hp
      have HLP := Lib.hid hlp
      have hst : ∀ l', part D.pg picks (k + 1) = l' → SetSo w1 q g cap m L K P D l' wr → SetSo w1 q g cap m L K P D (part D.pg picks (k + 1)) wr := fun l' h1 h2 => by rw [h1]; exact h2
      clear e1 e3 e4 e5 e2 sr fr p1 p2 p3 st hi hcc hp hcs him hrow hlen hst hlp
      by_cases hkp : k < picks.length
      · obtain ⟨a', pc', he, hrd2⟩ := hrd
        simp only [Value.slice.injEq, true_and] at he
        obtain ⟨rfl, rfl⟩ := he
        obtain ⟨gp, op, rfl, hpc⟩ := hrd2 (by omega)
        have hx := hpc k hkp
        have hfate : fate picks k = (picks.getD k 0).toNat % 3 := by unfold fate; rw [if_pos hkp]
        have hxb : (picks.getD k 0).toNat < 256 := (picks.getD k 0).toNat_lt
        generalize (picks.getD k 0).toNat = x at hx hfate hxb
        have hkpi : (k : Int) < (picks.length : Int) := by omega
        have HF := Lib.hid hfate
        clear hpc hrd2 hfate
        have hx3 : x % 3 = 0 ∨ x % 3 = 1 ∨ x % 3 = 2 := by omega
        rcases hx3 with h3 | h3 | h3
        · have hb0 : (((x : Int) % 3) == 0) = true := beq_iff_eq.2 (by omega)
          have H3 := Lib.hid h3
          clear h3
          go_wp2_with fail
          go_roundw
          case measure => simp [Lib.intOf]; omega
          case rel =>
            refine ⟨k + 1, by omega, by go_num, Lib.hid ?_⟩
            rw [part_same HI.out HCC.out (by rw [HF.out, H3.out]; unfold pick; rw [HP.out]; rfl)]
            exact ⟨vals', P', SR.out, FR.out, A1.out, A2.out, A3.out⟩
        · have hb0 : (((x : Int) % 3) == 0) = false := beq_eq_false_iff_ne.2 (by omega)
          have hb1 : (((x : Int) % 3) == 1) = true := beq_iff_eq.2 (by omega)
          have H3 := Lib.hid h3
          obtain ⟨v2, hv2, hp2⟩ : ∃ v2, getM L (i : Int) = some v2 ∧ PgAt wr P' v2 p := by
            have hpa : (part D.pg picks k)[i]? = some (if c.2.isSome = true ∧ rank D.pg i < k then pick (fate picks (rank D.pg i)) c else c.1, c.2) := by rw [part_at, HCC.out]; rfl
            have := SR.out.wt i _ hpa
            simp only [HP.out] at this
            exact this
          obtain ⟨pa, rfl⟩ := hp2.shape
          have hlook : ∀ n, (Instr.lookup 97 (.map (some m)) (.int .i64 (i : Int)) false).run Try.prog (wr.drewN n) = .ok (.pointer pa) (wr.drewN n) := fun n => by
            have := run_lookupM (P := Try.prog) (w := wr.drewN n) (int_key .i64) (val := id) Try.underlying97 Try.underlying3 (ptr_zero _) (SR.out.map.keep ((Fr.refl Nob wr).drewN n) fun h => h) (i : Int) false
            rw [hv2] at this
            exact this
          have hlook1 := hlook 1
          rw [show wr.drewN 1 = wr.drew from rfl] at hlook1
          have PP2 := Lib.hid hp2
          clear h3 hv2 hp2
          go_wp2_with fail
          go_region
          go_wp2_with fail
          go_roundw
          case measure => simp [Lib.intOf]; omega
          case rel =>
            refine ⟨k + 1, by omega, by go_num, Lib.hid ?_⟩
            have s4 := SR.out.setFl HPg.out HLP.out PP2.out
            have e : part D.pg picks (k + 1) = (part D.pg picks k).modify i (fun x => (p, x.2)) := by
              rw [part_step HI.out HCC.out, HF.out, H3.out]
              have : pick 1 c = p := by unfold pick; rw [HP.out]; rfl
              rw [this]
            rw [e]
            exact ⟨_, P', s4.keep (Fr.refl Nob _).drew (fun _ _ h => h) (fun _ _ h => h), (FR.out.set1 _).drew, A1.out, A2.out, fun k hk => ⟨by simpa using (A3.out k hk).1, (A3.out k hk).2⟩⟩
        · have hb0 : (((x : Int) % 3) == 0) = false := beq_eq_false_iff_ne.2 (by omega)
          have hb1 : (((x : Int) % 3) == 1) = false := beq_eq_false_iff_ne.2 (by omega)
          have H3 := Lib.hid h3
          have cg2 := ((Fr.refl Nob wr).alloc (.cells #[.slice none 0 0, .bool true] 115)).cell cg (fun h => h)
          have zg2 := (((Fr.refl Nob wr).alloc (.cells #[.slice none 0 0, .bool true] 115)).frozen (p := ⟨g, i, none⟩) (World.block_lt_of_cell? wr _ cg) (fun h => h)).trans zg
          clear h3
          go_wp2_with fail
          go_roundw
          case measure => simp [Lib.intOf]; omega
          case rel =>
            refine ⟨k + 1, by omega, by go_num, Lib.hid ?_⟩
            have fa : Fr Nob wr (wr.alloc (.cells #[.slice none 0 0, .bool true] 115)) := (Fr.refl Nob wr).alloc _
            have hsz : (wr.alloc (.cells #[.slice none 0 0, .bool true] 115)).heap.size = wr.heap.size + 1 := by simp
            have hgn : ∀ k, (P' k ∨ k = wr.heap.size) → k ≠ g := fun k hk e => hk.elim (fun h => HPg.out k h e) fun h => by
              have := World.block_lt_of_cell? wr _ cg
              have h2 : g < wr.heap.size := this
              omega
            have s3 := (SR.out.keep fa (fun _ _ h => h) (fun _ _ h => h)).wide (P' := fun k => P' k ∨ k = wr.heap.size) fun _ h => .inl h
            have hpt : PgAt (wr.alloc (.cells #[.slice none 0 0, .bool true] 115)) (fun k => P' k ∨ k = wr.heap.size) (.pointer (some ⟨wr.heap.size, 0, none⟩)) .torn := ⟨wr.heap.size, _, rfl, .inr rfl, heap_alloc_new wr _⟩
            have s4 := s3.setFl hgn HLP.out hpt
            have e : part D.pg picks (k + 1) = (part D.pg picks k).modify i (fun x => (.torn, x.2)) := by
              rw [part_step HI.out HCC.out, HF.out, H3.out]
              have : pick 2 c = .torn := by unfold pick; rw [HP.out]; rfl
              rw [this]
            rw [e]
            refine ⟨_, _, s4, (FR.out.alloc _).set1 _, fun k h => .inl (A1.out k h), fun k h => ?_, fun k h => ?_⟩
            · rcases h with h | h
              · exact A2.out k h
              · exact .inr (by rw [h]; exact FR.out.size)
            · have hs2 : ((wr.alloc (.cells #[.slice none 0 0, .bool true] 115)).setCell ⟨g, i, none⟩ (.pointer (some ⟨wr.heap.size, 0, none⟩))).heap.size = wr.heap.size + 1 := by simp
              rw [hs2]
              rcases h with h | h
              · have := A3.out k h
                exact ⟨by omega, this.2⟩
              · refine ⟨by omega, fun hk => ?_⟩
                have h1 := SS.out.lt k hk
                have h2 := F1.out.size
                have h3 := FR.out.size
                omega
      · have hfate : fate picks k = 0 := by unfold fate; rw [if_neg hkp]
        have hkpi : ¬ (k : Int) < (picks.length : Int) := by omega
        have HF := Lib.hid hfate
        clear hrd hfate
        go_wp2_with fail
        go_roundw
        case measure => simp [Lib.intOf]; omega
        case rel =>
          refine ⟨k + 1, by omega, by go_num, Lib.hid ?_⟩
          rw [part_same HI.out HCC.out (by rw [HF.out]; unfold pick; rw [HP.out]; rfl)]
          exact ⟨vals', P', SR.out, FR.out, A1.out, A2.out, A3.out⟩
    · have hk2 : k = (waits D.pg).length := by omega
      subst hk2
      obtain ⟨_, c1, _, _, c4, _, _, _, _, fz⟩ := sr.cells
      have z4 := fz 4
      have NE := Lib.hid sr.ne
      clear fz sr fr p1 p2 p3 st
      go_wp2_with ((with_reducible refine wpList_clearM (o := ⟨none, _, _, _, _, _⟩) rfl (.tmp 54) 97 rfl Try.underlying97 SR.out.map rfl ?_); intro w4 m4 f4; have c44 := f4.cell c4 (fun h => NE.out.2.1 h); have z44 := (f4.frozen (p := ⟨q, 4, none⟩) (lt_of_block SR.out.top) (fun h => NE.out.2.1 h)).trans z4)
      go_end0
      have s4 := SR.out.clearM HPm.out m4 f4
      have hpg := part_done D.pg picks
      have top4 := s4.top
      have t := s4.to (D' := D.settle picks) HK.out (fun k hk => ⟨Nat.lt_of_lt_of_le (A3.out k hk).1 f4.size, (A3.out k hk).2⟩) ((Fr.refl (One q) w4).set1 (o := 4) (.int .i64 (inc D.loss))) (by
        rw [heap_setCell_same _ q 4 _ _ _ top4]
        show some (Obj.cells #[Value.slice _ ((part D.pg picks _).map _).length cap, _, _, _, _, _, _, _, _] _ _) = some (Obj.cells #[Value.slice _ (settled D.pg picks).length cap, _, _, _, _, _, _, _, _] _ _)
        rw [hpg]
        rfl) (by
        show settled D.pg picks = (part D.pg picks _).map _
        rw [hpg]) s4.arm0 s4.arm1
      refine ⟨rfl, ?_⟩
      refine DTo.trans ((F1.out.nob.trans FR.out fun k _ h => (HK.out k).2 (.inr (.inl h))).trans f4 fun k _ h => (HK.out k).2 (.inr (.inr h))) A1.out (fun k hk => ?_) t
      rcases A2.out k hk with h | h
      · exact .inl h
      · exact .inr (Nat.le_trans F1.out.size h)

theorem crash5_eq {w : World} {q : Nat} {K P : Nat → Prop} {D : Dv} (s : DevAt w q K P D) {v : Value} {picks : List UInt8} (hr : RdB w v picks) (hn : picks.length ≤ 9223372036854775807) (hv : 0 < picks.length → ∀ k, v.ownBlock = some k → ¬ K k) :
    Calls Try.prog 43 #[.pointer (some ⟨q, 0, none⟩), v] w fun e w' => e = .returned (.tuple #[]) ∧ DTo w q K P w' (D.crash picks) := by
  have hc := Lib.hid (settle5_eq s hr hn hv)
  obtain ⟨a, pc, rfl, _⟩ := hr
  clear s hv
  go_enter Try.func43, Try.ntmps43
  go_wp2_with fail
  refine hc.out.mono ?_
  rintro e w1 ⟨rfl, P1, ⟨g, cap, m, vals, L, s, hK, hl⟩, f1, a1, a2⟩
  have S := Lib.hid s
  have HK := Lib.hid hK
  have HL := Lib.hid hl
  have F1 := Lib.hid f1
  have A1 := Lib.hid a1
  have A2 := Lib.hid a2
  obtain ⟨_, _, c2, _, _, _, _, _, c8, fz⟩ := s.cells
  have top := Lib.hid s.top
  clear hc s hK hl f1 a1 a2
  go_wp2_with fail
  go_end0
  have t := S.out.to (D' := D.crash picks) HK.out HL.out (((Fr.refl (One q) w1).set1 (o := 2) (.bool true)).set1 (o := 8) (.int .i64 (inc D.n3))) (by
    rw [heap_setCell_same _ q 8 _ _ _ (heap_setCell_same _ q 2 _ _ _ top.out)]
    rfl) rfl S.out.arm0 S.out.arm1
  exact ⟨rfl, DTo.trans F1.out A1.out A2.out t⟩

theorem DL.crash5 {W w : World} {q : Nat} {K N : Nat → Prop} {D : Dv} (h : DL W w q K N D) {v : Value} {picks : List UInt8} (hr : RdB w v picks) (hn : picks.length ≤ 9223372036854775807) (hv : 0 < picks.length → ∀ k, v.ownBlock = some k → ¬ K k) :
    Calls Try.prog 43 #[.pointer (some ⟨q, 0, none⟩), v] w fun e w' => e = .returned (.tuple #[]) ∧ DL W w' q K N (D.crash picks) ∧ Fr K w w' := by
  obtain ⟨P, s, f, hk, hn', hp⟩ := h
  refine (crash5_eq s hr hn hv).mono ?_
  rintro e w' ⟨rfl, t⟩
  exact ⟨rfl, DL.to f hk hn' hp t⟩

end Go.Proofs.Ytpdljgjofebgpaa
