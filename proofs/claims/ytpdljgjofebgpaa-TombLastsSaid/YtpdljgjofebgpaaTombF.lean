/-
  tomb: Add.
-/
import Derived.Test.YtpdljgjofebgpaaTombB
namespace Go.Proofs.Ytpdljgjofebgpaa
open Go.RowKit

/-- A device, and a journal on it, behind a call. -/
structure AddRes (W w w' : World) (q : Nat) (K N : Nat → Prop) (D' : Dv) (j m : Nat) (J' : Jn) : Prop where
  dl : DL W w' q K N D'
  ji : JIs w' q j m J'
  fr : Fr (fun k => K k ∨ k = j ∨ k = m) w w'

theorem tadd8 {w0 w : World} {v : Value} {xs : List UInt8} (f : Fr Nob w0 w) (h : w.ownsRow w0.heap.size 5 1 v xs.length (bytesV xs)) (hx : xs.length ≤ 100000) (val : Nat) :
    Calls Try.prog 87 #[v, .int .u64 val, .int .i64 8] w fun e w' => ∃ v', e = .returned v' ∧ w'.ownsRow w0.heap.size 5 1 v' (xs ++ le 8 val).length (bytesV (xs ++ le 8 val)) ∧ Fr Nob w0 w' ∧ Fr (fun k => v.ownBlock = some k) w w' :=
  tadd_eq f h hx (n := 8) (by omega) val

theorem add_nil {w : World} {j : Nat} : Calls Try.prog 50 #[.pointer (some ⟨j, 0, none⟩), .slice none 0 0] w fun e w' => e = .returned (.int .i64 0) ∧ w = w' := by
  go_enter Try.func50, Try.ntmps50
  go_wp2_with fail
  go_ret
  exact ⟨rfl, rfl⟩
theorem add_none {w : World} {j : Nat} {v : Value} (h : RdM w v []) : Calls Try.prog 50 #[.pointer (some ⟨j, 0, none⟩), v] w fun e w' => e = .returned (.int .i64 0) ∧ w = w' := by
  obtain ⟨a, cap, rfl, _⟩ := h
  go_enter Try.func50, Try.ntmps50
  go_wp2_with fail
  go_ret
  exact ⟨rfl, rfl⟩
theorem add_many {w : World} {j : Nat} {v : Value} {l : List Mk} (h : RdM w v l) (hl : 23 < l.length) : Calls Try.prog 50 #[.pointer (some ⟨j, 0, none⟩), v] w fun e w' => e = .returned (.int .i64 1) ∧ w = w' := by
  obtain ⟨a, cap, rfl, _⟩ := h
  have h1 : ((l.length : Int) == 0) = false := beq_false_of_ne (by omega)
  have h2 : (23 : Int) < (l.length : Int) := by omega
  go_enter Try.func50, Try.ntmps50
  go_wp2_with fail
  go_ret
  exact ⟨rfl, rfl⟩

section
variable {W w : World} {q : Nat} {K N : Nat → Prop} {D : Dv} {j m : Nat} {J : Jn} {v : Value} {l : List Mk}

theorem add_lost (h : DL W w q K N D) (hj : JIs w q j m J) (hv : RdM w v l) (h0 : 0 < l.length) (hl : l.length ≤ 23) (hx : J.loss ≠ D.loss) :
    Calls Try.prog 50 #[.pointer (some ⟨j, 0, none⟩), v] w fun e w' => e = .returned (.int .i64 4) ∧ Fr Nob w w' := by
  obtain ⟨a, cap, rfl, _⟩ := hv
  have H := Lib.hid h
  obtain ⟨c0, c1, c2, c3, c4, c5, c6, z⟩ := hj.cells
  have h1 : ((l.length : Int) == 0) = false := beq_false_of_ne (by omega)
  have h2 : ¬ (23 : Int) < (l.length : Int) := by omega
  have h3 : (J.loss != D.loss) = true := by simpa using hx
  clear h hj z
  go_enter Try.func50, Try.ntmps50
  go_wp2_with fail
  go_quiet ((go_at_call 39; exact quietL ((H.out.nob ((Fr.refl Nob w).drewN _)).losses)))
  go_wp2_with fail
  go_ret
  exact ⟨rfl, (Fr.refl Nob w).drewN _⟩

theorem add_full (h : DL W w q K N D) (hj : JIs w q j m J) (hv : RdM w v l) (h0 : 0 < l.length) (hl : l.length ≤ 23) (hx : J.loss = D.loss) (hp : J.pages ≤ 5000) (hu : J.used = J.pages) :
    Calls Try.prog 50 #[.pointer (some ⟨j, 0, none⟩), v] w fun e w' => e = .returned (.int .i64 7) ∧ Fr Nob w w' := by
  obtain ⟨a, cap, rfl, _⟩ := hv
  have H := Lib.hid h
  have JJ := Lib.hid hj
  obtain ⟨c0, c1, c2, c3, c4, c5, c6, z⟩ := hj.cells
  have h1 : ((l.length : Int) == 0) = false := beq_false_of_ne (by omega)
  have h2 : ¬ (23 : Int) < (l.length : Int) := by omega
  rw [hx] at c1
  clear h hj z
  go_enter Try.func50, Try.ntmps50
  go_wp2_with fail
  go_quiet ((go_at_call 39; exact quietL ((H.out.nob ((Fr.refl Nob w).drewN _)).losses)))
  have RO := Lib.hid (room_eq (JJ.out.nob ((Fr.refl Nob w).drewN nq)) (by omega) hp 0 (by omega))
  go_wp2_with fail
  refine RO.out.mono ?_
  rintro e w' ⟨rfl, f'⟩
  have F := Lib.hid (((Fr.refl Nob w).drewN nq).trans' f')
  clear f' RO
  go_wp2_with fail
  go_ret
  exact ⟨rfl, F.out⟩

set_option maxRecDepth 100000 in
set_option maxHeartbeats 4000000 in
theorem add_eq (h : DL W w q K N D) (hj : JIs w q j m J) (hv : RdM w v l) (h0 : 0 < l.length) (hl : l.length ≤ 23) (hx : J.loss = D.loss) (hp : J.first + J.pages ≤ D.pg.length) (hd : D.pg.length ≤ 4096) (hu : J.used < J.pages)
    (hN : N j ∧ N m) (hK : ¬ K j ∧ ¬ K m) (hW : W.heap.size ≤ j ∧ W.heap.size ≤ m) (hvk : ∀ k, v.ownBlock = some k → ¬ K k ∧ k ≠ j ∧ k ≠ m) :
    Calls Try.prog 50 #[.pointer (some ⟨j, 0, none⟩), v] w fun e w' => e = .returned (.int .i64 (addTo D J l).1) ∧ AddRes W w w' q K N (addTo D J l).2.1 j m (addTo D J l).2.2 := by
  have VV := Lib.hid hv
  obtain ⟨a, cap, rfl, _⟩ := hv
  have H := Lib.hid h
  have JJ := Lib.hid hj
  have HN := Lib.hid hN
  have HK := Lib.hid hK
  have HW := Lib.hid hW
  have HVK := Lib.hid hvk
  have HD := Lib.hid hd
  have HP := Lib.hid hp
  obtain ⟨c0, c1, c2, c3, c4, c5, c6, z⟩ := hj.cells
  have h1 : ((l.length : Int) == 0) = false := beq_false_of_ne (by omega)
  have h2 : ¬ (23 : Int) < (l.length : Int) := by omega
  rw [hx] at c1
  clear h hj z hN hK hvk hW
  go_enter Try.func50, Try.ntmps50
  go_wp2_with fail
  go_quiet ((go_at_call 39; exact quietL ((H.out.nob ((Fr.refl Nob w).drewN _)).losses)))
  obtain ⟨r, hr⟩ : ∃ r : Int, r = (J.pages : Int) - J.used := ⟨_, rfl⟩
  have RO := Lib.hid (room_eq (JJ.out.nob ((Fr.refl Nob w).drewN nq)) (by omega) (by omega) r hr)
  have hr0 : (r == 0) = false := by simp; omega
  have HR := Lib.hid hr
  clear hr
  go_wp2_with fail
  refine RO.out.mono ?_
  rintro e w1 ⟨rfl, f1⟩
  have F1 := Lib.hid (((Fr.refl Nob w).drewN nq).trans' f1)
  have MG := Lib.hid (tmagic_eq w1)
  clear f1 RO
  go_wp2_with fail
  refine MG.out.mono ?_
  rintro e w2 ⟨v2, rfl, own2, f2⟩
  have A1 := Lib.hid (tadd_eq f2 own2 (by decide) (n := 4) (by omega) l.length)
  clear f2 own2 MG
  go_wp2_with fail
  refine A1.out.mono ?_
  rintro e w3 ⟨v3, rfl, own3, f3, _⟩
  have c4' := (F1.out.trans' f3).cell c4 fun h => h
  have A2 := Lib.hid (tadd_eq f3 own3 (by simp [le_len, tomB]) (n := 8) (by omega) J.gen)
  clear f3 own3 A1 c0 c1 c2 c3 c4 c5 c6
  go_wp2_with fail
  refine A2.out.mono ?_
  rintro e w4 ⟨v4, rfl, own4, f4, _⟩
  obtain ⟨hd16, hhd⟩ : ∃ x, x = tomB ++ le 4 l.length ++ le 8 J.gen := ⟨_, rfl⟩
  rw [← hhd] at own4
  have hlen16 : hd16.length = 16 := by rw [hhd]; simp only [List.length_append, le_len]; rfl
  have HH := Lib.hid hhd
  have LH := Lib.hid hlen16
  have O4 : Hid (w4.ownsRow w1.heap.size 5 1 v4 (hd16 ++ marksB (l.take 0)).length (bytesV (hd16 ++ marksB (l.take 0)))) := Lib.hid (by
    rw [show hd16 ++ marksB (l.take 0) = hd16 by simp [marksB]]; exact own4)
  have F4 := Lib.hid f4
  clear f4 own4 A2 c4' hhd hlen16
  go_wp2_with fail
  go_loopw [5, 46] (fun u i wr => ∃ k : Nat, k ≤ l.length ∧ i = .int .i64 k ∧ Hid (wr.ownsRow w1.heap.size 5 1 u (hd16 ++ marksB (l.take k)).length (bytesV (hd16 ++ marksB (l.take k)))) ∧ Hid (Fr Nob w1 wr)) (fun _ i _ => l.length - (intOf i).toNat)
  case atStart => exact ⟨0, Nat.zero_le _, rfl, O4, F4⟩
  case round =>
    clear O4 F4
    obtain ⟨k, hk, rfl, own, fr⟩ := hrel
    by_cases hlt : k < l.length
    · have hki : (k : Int) < (l.length : Int) := by omega
      obtain ⟨a', cap', he, hc⟩ := VV.out.nob (F1.out.trans' fr.out)
      simp only [Value.slice.injEq, true_and] at he
      obtain ⟨rfl, rfl⟩ := he
      obtain ⟨g, o, rfl, hcell⟩ := hc (by omega)
      obtain ⟨d1, d2⟩ := hcell k hlt
      have htk : l.take (k + 1) = l.take k ++ [l.getD k (0, 0)] := by
        rw [List.take_add_one, List.getElem?_eq_getElem hlt, List.getD_eq_getElem?_getD, List.getElem?_eq_getElem hlt]
        rfl
      have hln : (hd16 ++ marksB (l.take k)).length ≤ 400 := by rw [List.length_append, LH.out, marksB_len, List.length_take]; omega
      have HT : Hid (hd16 ++ marksB (l.take (k + 1)) = hd16 ++ marksB (l.take k) ++ le 8 (l.getD k (0, 0)).1 ++ le 8 (l.getD k (0, 0)).2) := Lib.hid (by
        rw [htk, marksB_snoc]
        unfold mkB
        simp only [List.append_assoc])
      generalize l.getD k (0, 0) = mk at *
      obtain ⟨mk1, mk2⟩ := mk
      generalize hd16 ++ marksB (l.take k) = xs at *
      have fa : Fr Nob w1 (wr.alloc (.cells #[.int .u64 (mk1 : Int), .int .u64 (mk2 : Int)] 80)).drew := (fr.out.alloc _).drew
      have hb : (wr.alloc (.cells #[.int .u64 (mk1 : Int), .int .u64 (mk2 : Int)] 80)).drew.heap[wr.heap.size]? = _ := heap_alloc_new wr (.cells #[.int .u64 (mk1 : Int), .int .u64 (mk2 : Int)] 80)
      have b0 := cell_of_row _ wr.heap.size 0 _ _ (0, 0) hb
      have b1 := cell_of_row _ wr.heap.size 1 _ _ (0, 0) hb
      have owna := ((Fr.refl Nob wr).alloc (.cells #[.int .u64 (mk1 : Int), .int .u64 (mk2 : Int)] 80)).drew.ownsRow own.out fun _ _ h => h
      have HX : Hid (¬ u5.ownBlock = some wr.heap.size) := Lib.hid fun e => by have := (own.out.lt _ e).2; omega
      have AD1 := Lib.hid (tadd8 fa owna (by omega) mk1)
      clear hb fa owna hcell hc htk
      go_wp2_with fail
      go_region_with (first
        | (go_at_call 87; (with_reducible refine AD1.out.mono ?_); rintro e w6 ⟨v6, rfl, own6, f6, g6⟩; have e0 := g6.cell b0 HX.out; have e1 := g6.cell b1 HX.out; have AD2 := Lib.hid (tadd8 f6 own6 (by rw [List.length_append, le_len]; omega) mk2); clear own6 f6 g6)
        | (go_at_call 87; (with_reducible refine AD2.out.mono ?_); rintro e w7 ⟨v7, rfl, own7, f7, _⟩))
      all_goals
        have O8 : Hid (w7.ownsRow w1.heap.size 5 1 v7 (hd16 ++ marksB (l.take (k + 1))).length (bytesV (hd16 ++ marksB (l.take (k + 1))))) := Lib.hid (by rw [HT.out]; exact own7)
        have F8 := Lib.hid f7
        clear own7 f7 own fr b0 b1 e0 e1 AD1 AD2
        go_wp2_with fail
        go_roundw
        case rel => exact ⟨k + 1, by omega, by go_num, O8, F8⟩
        case measure => simp [intOf]; omega
    · have hke : k = l.length := by omega
      subst hke
      have rb := RdB.of_row own.out
      rw [List.take_length, show hd16 ++ marksB l = tpage J.gen l by rw [HH.out]; unfold tpage; simp only [List.append_assoc]] at rb
      have FW := Lib.hid (F1.out.trans' fr.out)
      have RB := Lib.hid (rb.nob (Fr.refl Nob wr).drew)
      have DW := Lib.hid (H.out.nob FW.out.drew)
      have jw := JJ.out.nob FW.out
      have JW := Lib.hid (JJ.out.nob FW.out.drew)
      obtain ⟨c0, c1, c2, c3, c4, c5, c6, z⟩ := jw.cells
      have hw1 : IntKind.i64.wrap ((J.first : Int) + (J.used : Int)) = ((J.first + J.used : Nat) : Int) := by rw [IntKind.wrap_i64]; have := HP.out; have := HD.out; omega
      have HLT : Hid (J.first + J.used < D.pg.length) := Lib.hid (by have := HP.out; omega)
      have HPL : Hid ((tpage J.gen l).length ≤ 384) := Lib.hid (by rw [tpage_len]; omega)
      have HWU : Hid (wrap64 ((J.used : Int) + 1) = ((J.used + 1 : Nat) : Int)) := Lib.hid (by rw [IntWalk.wrap64_in _ (by have := HP.out; have := HD.out; omega)]; omega)
      clear rb own fr jw z c1 c3 c4 c6
      go_wp2_with fail
      go_still_tail 14, (by kernel_rfl)
      change wpList _ _ _ _ _ wr.drew
      go_wp2_with fail
      rw [show (J.first : Int) + (J.used : Int) = ((J.first + J.used : Nat) : Int) from (Int.natCast_add _ _).symm]
      cases hb1 : D.spend.off with
      | true =>
        have HA : Hid (addTo D J l = (4, D.change (J.first + J.used) (.whole (pad (tpage J.gen l))), J)) := Lib.hid (by unfold addTo; rw [if_pos hb1])
        refine (DW.out.write HLT.out RB.out HPL.out true hb1).mono ?_
        rintro e w8 ⟨rfl, d8, f8⟩
        rw [errOff_true]
        have DD8 := Lib.hid d8
        have J8 := Lib.hid (JW.out.keep f8 HK.out.1 HK.out.2)
        have F8 : Hid (Fr (fun k => K k ∨ k = j ∨ k = m) w w8) := Lib.hid (Fr.trans (S' := K) FW.out.drew.nob f8 fun _ _ h => .inl h)
        clear d8 f8 c0 c2 c5 hb1
        go_wp2_with fail
        go_ret
        rw [HA.out]
        exact ⟨rfl, DD8.out, J8.out, F8.out⟩
      | false =>
        obtain ⟨D1, hD1⟩ : ∃ D1, D.change (J.first + J.used) (.whole (pad (tpage J.gen l))) = D1 := ⟨_, rfl⟩
        refine (DW.out.write HLT.out RB.out HPL.out false hb1).mono ?_
        rintro e w8 ⟨rfl, d8, f8⟩
        rw [errOff_false]
        have DD8 := Lib.hid d8
        have j8 := JW.out.keep f8 HK.out.1 HK.out.2
        have J8 := Lib.hid j8
        have c0' := j8.cells.1
        have c5' := j8.cells.2.2.2.2.2.1
        have z5' := j8.cells.2.2.2.2.2.2.2 5
        have F8 : Hid (Fr (fun k => K k ∨ k = j ∨ k = m) w w8) := Lib.hid (Fr.trans (S' := K) FW.out.drew.nob f8 fun _ _ h => .inl h)
        clear d8 f8 c0 c2 c5 j8
        go_wp2_with fail
        rw [show (J.used : Int) + 1 = ((J.used + 1 : Nat) : Int) by omega]
        have j9 := J8.out.use (J.used + 1)
        have f9 : Fr (One j) w8 (w8.setCell ⟨j, 5, none⟩ (.int .i64 ((J.used + 1 : Nat) : Int))) := (Fr.refl (One j) _).set1 _
        have d9 := DD8.out.keep' f9 (DD8.out.fr.trans f9 fun i hi (e : i = j) => by have := HW.out.1; omega) HK.out.1 HN.out.1
        have F9 := Lib.hid (F8.out.trans f9 fun i hi (e : i = j) => .inr (.inl e))
        rw [hD1] at d9
        generalize w8.setCell ⟨j, 5, none⟩ (.int .i64 ((J.used + 1 : Nat) : Int)) = w9 at *
        have D9 := Lib.hid d9
        have J9 := Lib.hid j9
        have c0 := j9.cells.1
        clear d9 j9 f9 c0' c5' z5'
        cases hb2 : D1.spend.off with
        | true =>
          have HA : Hid (addTo D J l = (4, D1.flush, { J with used := J.used + 1 })) := Lib.hid (by unfold addTo; rw [if_neg (by simp [hb1]), hD1, if_pos hb2])
          refine (D9.out.flush true hb2).mono ?_
          rintro e w10 ⟨rfl, d10, f10⟩
          rw [errOff_true]
          have D10 := Lib.hid d10
          have J10 := Lib.hid (J9.out.keep f10 HK.out.1 HK.out.2)
          have F10 := Lib.hid (F9.out.trans f10 fun i hi h => .inl h)
          clear d10 f10 c0 hb1 hb2 hD1
          go_wp2_with fail
          go_ret
          rw [HA.out]
          exact ⟨rfl, D10.out, J10.out, F10.out⟩
        | false =>
          have HA : Hid (addTo D J l = (0, D1.flush, { J with used := J.used + 1, M := noteL J.M l })) := Lib.hid (by unfold addTo; rw [if_neg (by simp [hb1]), hD1, if_neg (by simp [hb2])])
          refine (D9.out.flush false hb2).mono ?_
          rintro e w10 ⟨rfl, d10, f10⟩
          rw [errOff_false]
          have D10 := Lib.hid d10
          have J10 := Lib.hid (J9.out.keep f10 HK.out.1 HK.out.2)
          have F10 := Lib.hid (F9.out.trans f10 fun i hi h => .inl h)
          have NT := Lib.hid (note_eq J10.out (VV.out.keep F10.out fun k hk h => by
            have := HVK.out k hk
            rcases h with h | h | h
            · exact this.1 h
            · exact this.2.1 h
            · exact this.2.2 h) (fun k hk => (HVK.out k hk).2.2) (by omega))
          clear d10 f10 c0 hb1 hb2 hD1
          go_wp2_with fail
          refine NT.out.mono ?_
          rintro e w11 ⟨rfl, j11, f11⟩
          have J11 := Lib.hid j11
          have D11 := Lib.hid (D10.out.keep' f11 (D10.out.fr.trans f11 fun i hi (e : i = m) => by have := HW.out.2; omega) HK.out.2 HN.out.2)
          have F11 := Lib.hid (F10.out.trans f11 fun i hi (e : i = m) => .inr (.inr e))
          clear j11 f11 NT
          go_wp2_with fail
          go_ret
          rw [HA.out]
          exact ⟨rfl, D11.out, J11.out, F11.out⟩

end
end Go.Proofs.Ytpdljgjofebgpaa
