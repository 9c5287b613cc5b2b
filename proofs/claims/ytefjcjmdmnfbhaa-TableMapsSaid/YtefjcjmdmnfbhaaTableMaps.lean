/-
  The law TableMaps, walked.
-/
import Derived.Test.YtefjcjmdmnfbhaaTabMp
namespace Go.Proofs.Ytefjcjmdmnfbhaa
open Go.RowKit

theorem acts_at {l : List TAct} {k : Nat} {x : TAct} (h : l[k]? = some x) : l.getD k default = x := by rw [List.getD_eq_getElem?_getD, h]; rfl

set_option maxHeartbeats 16000000 in
set_option maxRecDepth 100000 in
theorem tableMaps_walk (A : Option Addr) (n cap : Nat) (l : List TAct) (w : World) (hl : InA w A n cap l) :
    Calls Try.prog 5 #[.slice A n cap] w fun e w' => e = .returned (.bool true) ∧ Fr Nob w w' := by
  have HL := Lib.hid hl
  have HLN := Lib.hid hl.len
  clear hl
  by_cases hn : 150 < n
  · have hn' : (150 : Int) < (n : Int) := by omega
    go_enter Try.func5, Try.ntmps5
    go_wp2_with fail
    refine (awake_ok w).mono ?_
    rintro e w0 ⟨rfl, f0⟩
    have f0 := Lib.hid f0
    go_wp2_with fail
    go_ret
    exact ⟨rfl, f0.out⟩
  have hn' : ¬ (150 : Int) < (n : Int) := by omega
  go_enter Try.func5, Try.ntmps5
  go_wp2_with fail
  refine (awake_ok w).mono ?_
  rintro e w0 ⟨rfl, f0⟩
  have f0 := Lib.hid f0
  go_wp2_with fail
  refine (DT.new f0.out 1 (by omega) (by omega) (by decide +kernel)).mono ?_
  rintro e w1 ⟨t, rfl, s1, f1⟩
  clear f0 f1
  go_wp2_with fail
  go_loopw [5] (fun i wr => ∃ k : Nat, k ≤ n ∧ i = .int .i64 k ∧ Hid (DT w wr t (actsT l k)) ∧ Hid ((actsT l k).m.length ≤ k)) (fun i _ => n - (intOf i).toNat)
  case atStart => exact ⟨0, Nat.zero_le _, rfl, s1, Lib.hid (Nat.le_refl _)⟩
  case round =>
    clear s1
    obtain ⟨k, hk, rfl, s, hm⟩ := hrel
    by_cases hlt : k < n
    · obtain ⟨g, o, x, rfl, hx, ⟨x0, x1, x2⟩, hxs⟩ := HL.out.cell s.out.fr hlt
      have hst := actsT_succ (l := l) (k := k) (by have := HLN.out; omega)
      rw [acts_at hx] at hst
      clear hx
      have hml := hm.out
      by_cases hop : x.op = 1
      · rw [hop] at x0
        have hst2 : Hid (actsT l (k + 1) = delK (actsT l k) x.key) := Lib.hid (by rw [hst]; unfold stepT; rw [if_pos hop])
        have hm2 := Lib.hid (delK_len (actsT l k) x.key)
        clear hop hst hml
        go_wp2_with fail
        refine (s.out.del x.key hxs (by have := hm.out; omega)).mono ?_
        rintro e w3 ⟨rfl, s3, f3⟩
        clear f3
        rw [← hst2.out] at s3 hm2
        go_wp2_with fail
        go_roundw
        case rel => exact ⟨k + 1, by omega, by go_num, s3, Lib.hid (by have := hm.out; have := hm2.out; omega)⟩
        case measure => simp [intOf]; omega
      · have hop2 : (x.op == 1) = false := beq_eq_false_iff_ne.2 hop
        have hst2 : Hid (actsT l (k + 1) = setK (actsT l k) x.key x.v) := Lib.hid (by rw [hst]; unfold stepT; rw [if_neg hop])
        have hm2 := Lib.hid (setK_len (actsT l k) x.key x.v)
        have ss := Lib.hid (s.out.nob ((Fr.refl Nob wr).drew))
        have hmb := Lib.hid (show (actsT l k).m.length ≤ 1000000 by omega)
        clear hop hst hml
        go_wp2_with fail
        go_region_law (first
          | (go_simp; go_at_call 16; refine (ss.out.set x.key x.v hxs hmb.out).mono ?_; rintro e w3 ⟨rfl, s3, f3⟩; clear f3))
        all_goals
          rw [← hst2.out] at s3 hm2
          go_wp2_with fail
          go_roundw
          case rel => exact ⟨k + 1, by omega, by go_num, s3, Lib.hid (by have := hm.out; have := hm2.out; omega)⟩
          case measure => simp [intOf]; omega
    · have : k = n := by omega
      subst this
      have hfin : Hid (∀ i, i < k → getP (actsT l k).m (keyA l i) = resA l (lastA l i)) := Lib.hid fun i hi => by
        have h1 := HLN.out
        have := lastUp_res (l := l) (i := i) (l.length - (i + 1)) (by omega)
        rw [show i + 1 + (l.length - (i + 1)) = k by omega] at this
        exact this
      have hcnt : Hid ((lastKeys l k).length = (actsT l k).m.length) := Lib.hid (by
        have h1 := HLN.out
        subst h1
        exact lastKeys_len s.out.ok)
      have hml := hm.out
      clear hm
      generalize actsT l k = S at *
      have hsl : Hid (∀ q, q ∈ l → q.key.size < 9223372036854775808) := Lib.hid HL.out.sz
      go_wp2_with fail
      go_loopw [7, 6, 8, 9, 10, 11] (fun i c _ _ _ _ wr => ∃ j : Nat, j ≤ k ∧ i = .int .i64 j ∧ c = .int .i64 (lastKeys l j).length ∧ Hid (DT w wr t S)) (fun i _ _ _ _ _ _ => k - (intOf i).toNat)
      case atStart => exact ⟨0, Nat.zero_le _, rfl, rfl, s⟩
      case round =>
        clear s
        obtain ⟨j, hj, rfl, rfl, s⟩ := hrel
        by_cases hjk : j < k
        · obtain ⟨g, o, x, rfl, hx, ⟨x0, x1, x2⟩, hxs⟩ := HL.out.cell s.out.fr hjk
          have hxa := acts_at hx
          have hkx : Hid (keyA l j = x.key) := Lib.hid (by unfold keyA; rw [hxa])
          clear hx hxa
          go_wp2_with fail
          refine (s.out.get x.key hxs).mono ?_
          rintro e w3 ⟨rfl, q, rfl⟩
          have hgv : Hid (getP S.m x.key = resA l (lastA l j)) := Lib.hid (by rw [← hkx.out]; exact hfin.out j hjk)
          have hg1 : Hid (getV S.m x.key = (resA l (lastA l j)).getD 0 ∧ getB S.m x.key = (resA l (lastA l j)).isSome) := Lib.hid (by unfold getV getB; rw [hgv.out]; exact ⟨rfl, rfl⟩)
          rw [hg1.out.1, hg1.out.2]
          have s3 := Lib.hid (s.out.nob ((Fr.refl Nob wr).drewN q))
          clear s hgv hg1 x0 x1 x2
          generalize wr.drewN q = w3 at *
          obtain ⟨gv, hgv⟩ : ∃ gv, gv = (resA l (lastA l j)).getD 0 := ⟨_, rfl⟩
          obtain ⟨gb, hgb⟩ : ∃ gb, gb = (resA l (lastA l j)).isSome := ⟨_, rfl⟩
          rw [← hgv, ← hgb]
          have HGV := Lib.hid hgv
          have HGB := Lib.hid hgb
          clear hgv hgb
          go_wp2_with fail
          go_loopw [11, 10] (fun i c wr => ∃ p d : Nat, Hid (p = j + 1 + d) ∧ p ≤ k ∧ i = .int .i64 p ∧ c = .int .i64 (lastUp l j d) ∧ Hid (DT w wr t S)) (fun i _ _ => k - (intOf i).toNat)
          case atStart => exact ⟨j + 1, 0, Lib.hid rfl, by omega, by go_num, rfl, s3⟩
          case round =>
            clear s3
            obtain ⟨p, d, hpd, hpk, rfl, rfl, s3⟩ := hrel
            by_cases hdk : p < k
            · obtain ⟨g2, o2, y, he, hy, ⟨_, _, y2⟩, _⟩ := HL.out.cell s3.out.fr hdk
              obtain ⟨g3, o3, x', he3, hx', ⟨_, _, x2⟩, _⟩ := HL.out.cell s3.out.fr hjk
              simp only [Option.some.injEq, Addr.mk.injEq, and_true] at he he3
              obtain ⟨rfl, rfl⟩ := he
              obtain ⟨rfl, rfl⟩ := he3
              have hky : Hid (keyA l p = y.key) := Lib.hid (by unfold keyA; rw [acts_at hy])
              have hkx' : Hid (keyA l j = x'.key) := Lib.hid (by unfold keyA; rw [acts_at hx'])
              have hsu : Hid (lastUp l j (d + 1) = if keyA l p = keyA l j then p else lastUp l j d) := Lib.hid (by
                rw [hpd.out]
                rfl)
              have hp2 : Hid (p + 1 = j + 1 + (d + 1)) := Lib.hid (by have := hpd.out; omega)
              clear hy hx'
              by_cases hxy : y.key = x'.key
              · have hsu2 : Hid (lastUp l j (d + 1) = p) := Lib.hid (by rw [hsu.out, if_pos (by rw [hky.out, hkx'.out, hxy])])
                rw [hxy] at y2
                go_wp2_with fail
                go_quiet (fail)
                go_wp2_with fail
                go_roundw
                case rel => exact ⟨p + 1, d + 1, hp2, by omega, by go_num, by rw [hsu2.out], Lib.hid (s3.out.nob ((Fr.refl Nob _).drewN nq))⟩
                case measure => simp [intOf]; omega
              · have hsu2 : Hid (lastUp l j (d + 1) = lastUp l j d) := Lib.hid (by rw [hsu.out, if_neg (by rw [hky.out, hkx'.out]; exact hxy)])
                have hne := str_ne hxy
                go_wp2_with fail
                go_quiet (fail)
                go_wp2_with fail
                go_roundw
                case rel => exact ⟨p + 1, d + 1, hp2, by omega, by go_num, by rw [hsu2.out], Lib.hid (s3.out.nob ((Fr.refl Nob _).drewN nq))⟩
                case measure => simp [intOf]; omega
            · have hpk2 : p = k := by omega
              have hdd : Hid (lastUp l j d = lastA l j) := Lib.hid (by
                unfold lastA
                congr 1
                have := hpd.out
                have := HLN.out
                omega)
              have hLk : Hid (j ≤ lastA l j ∧ lastA l j < k) := Lib.hid (by
                have h1 := lastUp_le l j d
                rw [hdd.out] at h1
                have := hpd.out
                omega)
              have hcs : Hid ((lastKeys l (j + 1)).length = (lastKeys l j).length + (if isLast l j then 1 else 0)) := Lib.hid lastKeys_succ
              have hcb := lastKeys_le (l := l) j
              have hil : Hid (isLast l j ↔ lastA l j = j ∧ (l.getD j default).op ≠ 1) := Lib.hid Iff.rfl
              rw [hdd.out]
              have hL1 := hLk.out.1
              have hL2 := hLk.out.2
              generalize lastA l j = L at *
              obtain ⟨g2, o2, z, he, hz, ⟨z0, z1, z2⟩, _⟩ := HL.out.cell s3.out.fr hL2
              simp only [Option.some.injEq, Addr.mk.injEq, and_true] at he
              obtain ⟨rfl, rfl⟩ := he
              have hza := Lib.hid (acts_at hz)
              have hr : Hid (resA l L = if z.op = 1 then none else some z.v) := Lib.hid (by unfold resA; rw [hza.out])
              have hpe : Hid (p = k) := Lib.hid hpk2
              subst hpk2
              clear hz z2
              by_cases hop : z.op = 1
              · have g1 : Hid (gv = 0) := Lib.hid (by rw [HGV.out, hr.out, if_pos hop]; rfl)
                have g2 : Hid (gb = false) := Lib.hid (by rw [HGB.out, hr.out, if_pos hop]; rfl)
                have hnl : Hid ((lastKeys l (j + 1)).length = (lastKeys l j).length) := Lib.hid (by
                  rw [hcs.out, if_neg]
                  · rfl
                  · rw [hil.out]
                    rintro ⟨h1, h2⟩
                    rw [← h1] at h2
                    rw [hza.out] at h2
                    exact h2 hop)
                rw [hop] at z0
                rw [g1.out, g2.out]
                clear hop hcs
                rw [← hnl.out]
                by_cases hLj : L = j
                · have hLj2 := hLj.symm
                  clear hLj
                  subst hLj2
                  go_wp2_with fail
                  go_roundw
                  case rel => exact ⟨j + 1, by omega, by go_num, by rfl, s3⟩
                  case measure => simp [intOf]; omega
                · have hd1 : ((L : Int) == (j : Int)) = false := beq_eq_false_iff_ne.2 (by omega)
                  go_wp2_with fail
                  go_roundw
                  case rel => exact ⟨j + 1, by omega, by go_num, by rfl, s3⟩
                  case measure => simp [intOf]; omega
              · have g1 : Hid (gv = z.v) := Lib.hid (by rw [HGV.out, hr.out, if_neg hop]; rfl)
                have g2 : Hid (gb = true) := Lib.hid (by rw [HGB.out, hr.out, if_neg hop]; rfl)
                have hop2 : (z.op != 1) = true := bne_iff_ne.2 hop
                rw [g1.out, g2.out]
                by_cases hLj : L = j
                · have hnl : Hid ((lastKeys l (j + 1)).length = (lastKeys l j).length + 1) := Lib.hid (by
                    rw [hcs.out, if_pos]
                    rw [hil.out]
                    refine ⟨hLj, ?_⟩
                    rw [← hLj, hza.out]
                    exact hop)
                  have hLj2 := hLj.symm
                  clear hLj
                  subst hLj2
                  clear hcs hop
                  go_wp2_with fail
                  go_roundw
                  case rel => exact ⟨j + 1, by omega, by go_num, by rw [hnl.out]; go_num, s3⟩
                  case measure => simp [intOf]; omega
                · have hnl : Hid ((lastKeys l (j + 1)).length = (lastKeys l j).length) := Lib.hid (by
                    rw [hcs.out, if_neg]
                    · rfl
                    · rw [hil.out]
                      exact fun h => hLj h.1)
                  have hd1 : ((L : Int) == (j : Int)) = false := beq_eq_false_iff_ne.2 (by omega)
                  clear hcs hop
                  go_wp2_with fail
                  go_roundw
                  case rel => exact ⟨j + 1, by omega, by go_num, by rw [hnl.out], s3⟩
                  case measure => simp [intOf]; omega
        · have : j = k := by omega
          subst this
          rw [hcnt.out]
          go_wp2_with fail
          refine s.out.len.mono ?_
          rintro e _ ⟨rfl, rfl⟩
          go_wp2_with fail
          refine (s.out.keys (by omega)).mono ?_
          rintro e w5 ⟨v, rfl, o, f⟩
          obtain ⟨a1, c1, rfl, _, _, _⟩ := own_shape o.out
          have s5 := Lib.hid (s.out.nob f.out)
          clear o f s
          go_wp2_with fail
          go_ret
          exact ⟨rfl, s5.out.fr⟩
end Go.Proofs.Ytefjcjmdmnfbhaa
