/-
  Law 6: TombTorn, walked.
-/
import Derived.Test.YtpdljgjofebgpaaTombR
namespace Go.Proofs.Ytpdljgjofebgpaa
open Go.RowKit Go.ChangeShapes Go.WideShapes Go.Deep

theorem InMM.cell {w : World} {A : Option Addr} {n : Nat} {z : Nat → Option Addr × Nat × Nat} {l : Nat → List Mk} (h : InMM w A n z l) {i : Nat} (hi : i < n) :
    ∃ b o, A = some ⟨b, o, none⟩ ∧ w.cell? ⟨b, o + i, none⟩ = some (.slice (z i).1 (z i).2.1 (z i).2.2) ∧ b < w.heap.size := by
  obtain ⟨b, o, hA, hb, hc⟩ := h.rows (by omega)
  refine ⟨b, o, hA, ?_, hb⟩
  have := (hc i hi).2 0 (by omega)
  simpa using this
theorem InMM.keep {w w' : World} {A : Option Addr} {n : Nat} {z : Nat → Option Addr × Nat × Nat} {l : Nat → List Mk} (h : InMM w A n z l) (f : Fr Nob w w') : InMM w' A n z l := ⟨h.rows.keep f, fun i hi => (h.el i hi).keep f⟩

/-- What TombTorn knows behind k rounds. -/
structure TornAt (D : Dv) (J : Jn) (l : Nat → List Mk) (k : Nat) : Prop where
  calm : CalmN 10 D
  still : Still D
  loss : J.loss = D.loss
  jf : J.first = 1
  jp : J.pages = 9
  jg : J.gen = 5
  ju : J.used = k
  done : ∀ i, i < k → D.now (1 + i) = .whole (pad (tpage 5 (l i))) ∧ (l i).length ≤ 23
  rest : ∀ i, k ≤ i → 1 + i < 10 → D.now (1 + i) = .blank

theorem TornAt.start {D : Dv} (h : LikeD (Dv.new 10) D) (l : Nat → List Mk) : TornAt D ⟨1, 9, 5, 0, (Dv.new 10).loss, []⟩ l 0 :=
  ⟨(CalmN.new 10).like h, (Still.new 10).like h, h.loss.symm, rfl, rfl, rfl, rfl, fun i hi => by omega, fun i _ hi => by
    rw [h.now]
    unfold Dv.now Dv.new
    simp only
    rw [List.getD_eq_getElem?_getD, List.getElem?_replicate, if_pos hi]
    rfl⟩
theorem TornAt.step {D : Dv} {J : Jn} {l : Nat → List Mk} {k : Nat} (h : TornAt D J l k) (hk : k < 9) (hl : (l k).length ≤ 23) : TornAt (addD D J (l k)) (addJ J (l k)) l (k + 1) := by
  have hfu : J.first + J.used = 1 + k := by rw [h.jf, h.ju]
  have hn : ∀ j, (addD D J (l k)).now j = if j = 1 + k then .whole (pad (tpage 5 (l k))) else D.now j := fun j => by
    rw [h.calm.now_addD J (l k) (by omega), hfu, h.jg]
  refine ⟨h.calm.addD _ _, still_flush (by rw [(h.calm.change _ _).spend]; exact (h.calm.change _ _).2.1), by rw [h.calm.loss_addD]; exact h.loss, h.jf, h.jp, h.jg, by show J.used + 1 = _; rw [h.ju], fun i hi => ?_, fun i h1 h2 => ?_⟩
  · rw [hn]
    by_cases e : i = k
    · subst e
      rw [if_pos rfl]
      exact ⟨rfl, hl⟩
    · rw [if_neg (by omega)]
      exact h.done i (by omega)
  · rw [hn, if_neg (by omega)]
    exact h.rest i (by omega) h2

set_option maxRecDepth 100000 in
set_option maxHeartbeats 8000000 in
theorem tombTorn_main (A : Option Addr) (n cap page : Nat) (z : Nat → Option Addr × Nat × Nat) (l : Nat → List Mk) (w : World) (hz : InMM w A n z l) (h1 : 1 ≤ n) (h8 : n ≤ 8) (hp : page < n) :
    Calls Try.prog 21 #[.slice A n cap, .int .i64 page] w fun e w' => e = .returned (.bool true) ∧ Fr Nob w w' := by
  have Z := Lib.hid hz
  have e1 : ¬ (n : Int) < 1 := by omega
  have e2 : ¬ (8 : Int) < (n : Int) := by omega
  have e3 : ¬ (page : Int) < 0 := by omega
  have e4 : ¬ (n : Int) ≤ (page : Int) := by omega
  clear hz
  go_enter Try.func21, Try.ntmps21
  go_wp2_with fail
  refine (awake6_eq w).mono ?_
  rintro e w0 ⟨rfl, f0⟩
  have F0 := Lib.hid f0
  clear f0
  go_wp2_with fail
  refine (DL.new (n := 10) F0.out (by omega) (by omega)).mono ?_
  rintro e w1 ⟨q, K, rfl, d, _, _⟩
  have OP := Lib.hid (JL.opened d rfl (first := 1) (pages := 9) (gen := 5) (by omega) (by simp [Dv.new]) (by simp [Dv.new]))
  clear d
  go_wp2_with fail
  refine OP.out.mono ?_
  rintro e w2 ⟨j, rfl, m, D1, a1, lk1, _⟩
  rw [opened_none (show (Dv.new 10).now 1 = .blank from rfl)] at a1
  have T1 := Lib.hid (TornAt.start lk1 l)
  have A1 := Lib.hid a1
  clear a1 lk1 OP
  go_wp2_with fail
  go_loopw [9] (fun i wr => ∃ (k : Nat) (D : Dv) (J : Jn), k ≤ n ∧ i = .int .i64 k ∧ Hid (JL w wr q K D j m J) ∧ Hid (TornAt D J l k)) (fun i _ => n - (intOf i).toNat)
  case atStart => exact ⟨0, D1, _, Nat.zero_le _, rfl, A1, T1⟩
  case round =>
    clear A1 T1
    obtain ⟨k, D, J, hk, rfl, A2, T2⟩ := hrel
    by_cases hlt : k < n
    · have hki : (k : Int) < (n : Int) := by omega
      obtain ⟨b, o, rfl, hc, _⟩ := (Z.out.keep A2.out.fr).cell hlt
      have EL := Lib.hid (Z.out.el k hlt)
      obtain ⟨lk, hlk⟩ : ∃ x, x = l k := ⟨_, rfl⟩
      rw [← hlk] at EL
      have HLK := Lib.hid hlk
      generalize (z k).1 = za at *
      generalize (z k).2.1 = zn at *
      generalize (z k).2.2 = zc at *
      clear hlk
      by_cases hs1 : zn < 1
      · have hs1' : (zn : Int) < 1 := by omega
        go_wp2_with fail
        go_ret
        exact ⟨rfl, A2.out.fr⟩
      · have hs1' : ¬ (zn : Int) < 1 := by omega
        by_cases hs2 : 23 < zn
        · have hs2' : (23 : Int) < (zn : Int) := by omega
          go_wp2_with fail
          go_ret
          exact ⟨rfl, A2.out.fr⟩
        · have hs2' : ¬ (23 : Int) < (zn : Int) := by omega
          have AD := Lib.hid (A2.out.add_calm T2.out.calm (EL.out.rd.nob A2.out.fr) (by rw [EL.out.len]; omega) (by rw [EL.out.len]; omega) T2.out.loss (by rw [T2.out.ju, T2.out.jp]; omega) (fun i hi => by
            have h1 := EL.out.old (by omega) i hi
            refine ⟨fun h => ?_, fun e => ?_, fun e => ?_⟩
            · have := A2.out.dl.kle i h; omega
            · have := A2.out.wj; omega
            · have := A2.out.wm; omega))
          have TS := Lib.hid (T2.out.step (by omega) (by rw [← HLK.out, EL.out.len]; omega))
          rw [← HLK.out] at TS
          go_wp2_with fail
          refine AD.out.mono ?_
          rintro e w5 ⟨rfl, a5, _⟩
          have A5 := Lib.hid a5
          clear a5 AD hc
          go_wp2_with fail
          go_roundw
          case rel => exact ⟨k + 1, _, _, by omega, by go_num, A5, TS⟩
          case measure => simp [intOf]; omega
    · have hke : k = n := by omega
      subst hke
      have T3 := Lib.hid T2.out
      have PG : Hid (1 + page < D.pg.length) := Lib.hid (by rw [T2.out.calm.1]; omega)
      have WR := Lib.hid ((A2.out.dl.less (N' := Nob) fun _ h => h.elim).write PG.out (RdB.nil wr 0) (by simp) false (by rw [T2.out.calm.spend]; exact T2.out.calm.2.1))
      have hw1 : IntKind.i64.wrap ((1 : Int) + (page : Int)) = (1 : Int) + (page : Int) := by rw [IntKind.wrap_i64]; omega
      go_wp2_with fail
      rw [show (1 : Int) + (page : Int) = ((1 + page : Nat) : Int) by omega]
      refine WR.out.mono ?_
      rintro e w5 ⟨rfl, d5, _⟩
      rw [errOff_false]
      have D5 := Lib.hid d5
      have fa : Fr Nob w5 (w5.alloc (.cells #[.int .u8 2] 5)) := (Fr.refl Nob w5).alloc _
      have CR : Hid (Calls Try.prog 43 #[.pointer (some ⟨q, 0, none⟩), .slice (some ⟨w5.heap.size, 0, none⟩) 1 1] (w5.alloc (.cells #[.int .u8 2] 5)) fun e w' => e = .returned (.tuple #[]) ∧ DL w w' q K Nob ((D.change (1 + page) (.whole (pad []))).crash [2]) ∧ Fr K (w5.alloc (.cells #[.int .u8 2] 5)) w') := Lib.hid
        ((d5.nob fa).crash (v := .slice (some ⟨w5.heap.size, 0, none⟩) 1 1) (picks := [2]) (RdB.of_block (l := [2]) (cap := 1) (heap_alloc_new w5 (.cells #[.int .u8 2] 5))) (by simp) (fun i hi => by
          have : i = w5.heap.size := by simpa [Value.ownBlock] using hi.symm
          subst this
          exact d5.fresh _ (Nat.le_refl _)))
      clear d5 fa WR
      go_wp2_with fail
      refine CR.out.mono ?_
      rintro e w6 ⟨rfl, d6, _⟩
      have ON := Lib.hid d6.on
      clear d6 CR D5
      go_wp2_with fail
      refine ON.out.mono ?_
      rintro e w7 ⟨rfl, d7, _⟩
      obtain ⟨D7, hD7⟩ : ∃ D7, D7 = ((D.change (1 + page) (.whole (pad []))).crash [2]).on := ⟨_, rfl⟩
      rw [← hD7] at d7
      have N7 : ∀ x, x < 10 → D7.now x = if x = 1 + page then .torn else D.now x := fun x hx => by
        rw [hD7]
        exact torn_now T3.out.calm T3.out.still (by omega) _ x hx
      have L7 : D7.pg.length = 10 := by rw [hD7, crash_on_len, change_len]; exact T3.out.calm.1
      have O7 := opened_torn (D := D7) (gen := 5) (n := k) (page := page) (by omega) l h8 (fun i hi => ⟨(T3.out.done i hi).2, (Z.out.el i hi).ok⟩) (fun i hi => by
        rw [N7 (1 + i) (by omega)]
        by_cases e : i = page
        · rw [if_pos (by omega), if_pos e]
        · rw [if_neg (by omega), if_neg e]
          exact (T3.out.done i hi).1) (by rw [N7 (1 + k) (by omega), if_neg (by omega)]; exact T3.out.rest k (Nat.le_refl _) (by omega))
      have LB : Hid (∀ i, i < k → (l i).length ≤ 23) := Lib.hid fun i hi => (T3.out.done i hi).2
      have OU := Lib.hid O7.1
      have OG := Lib.hid O7.2
      have OP := Lib.hid (JL.opened d7 (by rw [hD7]; rfl) (first := 1) (pages := 9) (gen := 5) (by omega) (by rw [L7]; omega) (by rw [L7]; omega))
      clear d7 hD7 N7 L7 O7 ON
      go_wp2_with fail
      refine OP.out.mono ?_
      rintro e w8 ⟨kj, rfl, km, D8, a8, _, _⟩
      have RO := Lib.hid (a8.room ((9 : Int) - (k : Int)) (by show _ = (9 : Int) - (((opened D7 1 9 5).used : Nat) : Int); rw [OU.out]))
      have A8 := Lib.hid a8
      have hw2 : IntKind.i64.wrap ((9 : Int) - (k : Int)) = (9 : Int) - (k : Int) := by rw [IntKind.wrap_i64]; omega
      clear a8 OP
      go_wp2_with (go_at_call 51; (with_reducible refine RO.out.mono ?_); rintro e w9 ⟨rfl, f9⟩; have A9 := Lib.hid (A8.out.nob f9); clear f9)
      generalize opened D7 1 9 5 = J7 at *
      clear T2 A2 T3 PG A8 RO OU
      go_loopw [12] (fun i wr => ∃ t : Nat, t ≤ k ∧ i = .int .i64 t ∧ Hid (JL w wr q K D8 kj km J7)) (fun i _ => k - (intOf i).toNat)
      case atStart => exact ⟨0, Nat.zero_le _, rfl, A9⟩
      case round =>
        clear A9
        obtain ⟨t, ht, rfl, A10⟩ := hrel
        by_cases htk : t < k
        · have hti : (t : Int) < (k : Int) := by omega
          obtain ⟨b, o, rfl, hc, hbl⟩ := Z.out.cell htk
          have EL := Lib.hid (Z.out.el t htk)
          obtain ⟨lt, hlt2⟩ : ∃ x, x = l t := ⟨_, rfl⟩
          have OGT : Hid (t ≠ page → ∀ m, m ∈ lt → goneB J7.M m.1 m.2 = true) := Lib.hid fun hne m hm => OG.out t htk hne m (by rw [← hlt2]; exact hm)
          have hz23 := LB.out t htk
          rw [← hlt2] at EL hz23
          rw [EL.out.len] at hz23
          generalize (z t).1 = za at *
          generalize (z t).2.1 = zn at *
          generalize (z t).2.2 = zc at *
          have HCL := Lib.hid hc
          clear hlt2 hc
          go_wp2_with fail
          go_loopw [13] (fun i wr => ∃ s : Nat, s ≤ zn ∧ i = .int .i64 s ∧ Hid (JL w wr q K D8 kj km J7)) (fun i _ => zn - (intOf i).toNat)
          case atStart => exact ⟨0, Nat.zero_le _, rfl, A10⟩
          case round =>
            clear A10
            obtain ⟨s, hs, rfl, A11⟩ := hrel
            have hc := A11.out.fr.cell HCL.out fun h => h
            by_cases hsz : s < zn
            · have hsi : (s : Int) < (zn : Int) := by omega
              by_cases htp : t = page
              · have hne : ((t : Int) != (page : Int)) = false := by simp [htp]
                clear htp
                go_wp2_with fail
                go_roundw
                case rel => exact ⟨t + 1, by omega, by go_num, A11⟩
                case measure => simp [intOf]; omega
              · have hne : ((t : Int) != (page : Int)) = true := by simp; omega
                obtain ⟨a', cap', he, hcc⟩ := EL.out.rd
                simp only [Value.slice.injEq] at he
                obtain ⟨rfl, hzl, rfl⟩ := he
                obtain ⟨g, o2, rfl, hcell⟩ := hcc (by omega)
                obtain ⟨c0, c1⟩ := hcell s (by omega)
                have hsl : s < lt.length := by omega
                clear hzl
                have d0 := A11.out.fr.cell c0 fun h => h
                have d1 := A11.out.fr.cell c1 fun h => h
                have GB := Lib.hid (OGT.out htp (lt.getD s (0, 0)) (by rw [List.getD_eq_getElem?_getD, List.getElem?_eq_getElem hsl]; exact List.getElem_mem hsl))
                clear hsl
                generalize lt.getD s (0, 0) = mk at *
                obtain ⟨x, y⟩ := mk
                have GN : Hid (∀ nq, Calls Try.prog 54 #[.pointer (some ⟨kj, 0, none⟩), .int .u64 (x : Int), .int .u64 (y : Int)] (wr.drewN nq) fun e w' => e = .returned (.bool true) ∧ wr.drewN nq = w') := Lib.hid fun nq => (A11.out.nob ((Fr.refl Nob wr).drewN nq)).gone x y true GB.out
                clear c0 c1 hcell hcc
                go_wp2_with fail
                go_quiet ((go_at_call 54; exact quietL (GN.out _)))
                have A12 := Lib.hid (A11.out.nob ((Fr.refl Nob wr).drewN nq))
                go_wp2_with fail
                go_roundw
                case rel => exact ⟨s + 1, by omega, by go_num, A12⟩
                case measure => simp [intOf]; omega
            · have hsz2 : ¬ (s : Int) < (zn : Int) := by omega
              go_wp2_with fail
              go_roundw
              case rel => exact ⟨t + 1, by omega, by go_num, A11⟩
              case measure => simp [intOf]; omega
        · have hte : t = k := by omega
          subst hte
          go_wp2_with fail
          go_ret
          exact ⟨rfl, A10.out.fr⟩

set_option maxHeartbeats 1000000 in
theorem tombTorn_walk (A : Option Addr) (n cap : Nat) (zl : (Nat → Option Addr × Nat × Nat) × (Nat → List Mk)) (p : Int) (w : World) (hz : InMM w A n zl.1 zl.2) (hp : (Lit.int .i64 p).wf = true) :
    Calls Try.prog 21 #[.slice A n cap, .int .i64 p] w fun e w' => e = .returned (.bool true) ∧ Fr Nob w w' := by
  by_cases h1 : n < 1
  · have h1' : (n : Int) < 1 := by omega
    go_enter Try.func21, Try.ntmps21
    go_wp2_with fail
    refine (awake6_eq w).mono ?_
    rintro e w0 ⟨rfl, f0⟩
    go_wp2_with fail
    go_ret
    exact ⟨rfl, f0⟩
  · by_cases h2 : 8 < n
    · have h2' : (8 : Int) < (n : Int) := by omega
      go_enter Try.func21, Try.ntmps21
      go_wp2_with fail
      refine (awake6_eq w).mono ?_
      rintro e w0 ⟨rfl, f0⟩
      go_wp2_with fail
      go_ret
      exact ⟨rfl, f0⟩
    · by_cases h3 : p < 0
      · go_enter Try.func21, Try.ntmps21
        go_wp2_with fail
        refine (awake6_eq w).mono ?_
        rintro e w0 ⟨rfl, f0⟩
        go_wp2_with fail
        go_ret
        exact ⟨rfl, f0⟩
      · by_cases h4 : (n : Int) ≤ p
        · have h1' : ¬ (n : Int) < 1 := by omega
          have h2' : ¬ (8 : Int) < (n : Int) := by omega
          go_enter Try.func21, Try.ntmps21
          go_wp2_with fail
          refine (awake6_eq w).mono ?_
          rintro e w0 ⟨rfl, f0⟩
          go_wp2_with fail
          go_ret
          exact ⟨rfl, f0⟩
        · obtain ⟨page, rfl⟩ : ∃ k : Nat, p = k := ⟨p.toNat, by omega⟩
          exact tombTorn_main A n cap page zl.1 zl.2 w hz (by omega) (by omega) (by omega)

end Go.Proofs.Ytpdljgjofebgpaa
