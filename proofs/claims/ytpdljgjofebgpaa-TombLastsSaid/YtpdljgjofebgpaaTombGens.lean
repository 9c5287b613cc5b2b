/-
  Law 6: TombGens, walked.
-/
import Derived.Test.YtpdljgjofebgpaaTombDone
namespace Go.Proofs.Ytpdljgjofebgpaa
open Go.RowKit

/-- What an Add of any few marks leaves. -/
def Added6 (D : Dv) (J : Jn) (l : List Mk) (D' : Dv) (J' : Jn) : Prop := (l = [] ∧ D' = D ∧ J' = J) ∨ (0 < l.length ∧ D' = addD D J l ∧ J' = addJ J l)

theorem room_q {w : World} {q j m : Nat} {J : Jn} (h : JIs w q j m J) (hu : J.used ≤ J.pages) (hp : J.pages ≤ 5000) (r : Int) (hr : r = (J.pages : Int) - J.used) :
    Calls Try.prog 51 #[.pointer (some ⟨j, 0, none⟩)] w fun e w' => e = .returned (.int .i64 r) ∧ ∃ n, w' = w.drewN n := by
  have c3 := h.cells.2.2.2.1
  have c5 := h.cells.2.2.2.2.2.1
  have HR := Lib.hid hr
  have hw : IntKind.i64.wrap ((J.pages : Int) - J.used) = (J.pages : Int) - J.used := by rw [IntKind.wrap_i64]; omega
  clear h hr
  go_enter Try.func51, Try.ntmps51
  go_wp2_with fail
  go_quiet (fail)
  go_wp2_with fail
  go_ret
  exact ⟨by rw [HR.out]; rfl, _, rfl⟩

section
variable {W w : World} {q : Nat} {K : Nat → Prop} {D : Dv} {j m : Nat} {J : Jn} {n : Nat}
theorem JL.add_any (a : JL W w q K D j m J) (hc : CalmN n D) {v : Value} {l : List Mk} (hv : RdM w v l) (hl : l.length ≤ 23) (hx : J.loss = D.loss) (hu : J.used < J.pages) (hvk : 0 < l.length → ∀ k, v.ownBlock = some k → ¬ K k ∧ k ≠ j ∧ k ≠ m) :
    Calls Try.prog 50 #[.pointer (some ⟨j, 0, none⟩), v] w fun e w' => e = .returned (.int .i64 0) ∧ ∃ D' J', JL W w' q K D' j m J' ∧ Added6 D J l D' J' ∧ Fr (fun k => K k ∨ k = j ∨ k = m) w w' := by
  by_cases h0 : 0 < l.length
  · refine (a.add_calm hc hv h0 hl hx hu (hvk h0)).mono ?_
    rintro e w' ⟨rfl, b, f⟩
    exact ⟨rfl, _, _, b, .inr ⟨h0, rfl, rfl⟩, f⟩
  · have : l = [] := List.length_eq_zero_iff.1 (by omega)
    subst this
    refine (add_none hv).mono ?_
    rintro e w' ⟨rfl, rfl⟩
    exact ⟨rfl, _, _, a, .inl ⟨rfl, rfl, rfl⟩, Fr.refl _ _⟩
end

theorem opened_none {D : Dv} {first pages gen : Nat} (h : D.now first = .blank) : opened D first pages gen = ⟨first, pages, gen, 0, D.loss, []⟩ := by
  unfold opened
  rw [openL_blank (u := 0) h]
theorem opened_other {D : Dv} {first pages gen g : Nat} {l : List Mk} (h : D.now first = .whole (pad (tpage g l))) (hg : g < 18446744073709551616) (hl : l.length ≤ 23) (ho : ∀ m, m ∈ l → m.ok) (hne : g ≠ gen) : opened D first pages gen = ⟨first, pages, gen, 0, D.loss, []⟩ := by
  unfold opened
  rw [openL_other (u := 0) h hg hl ho hne]

set_option maxRecDepth 100000 in
set_option maxHeartbeats 4000000 in
theorem tombGens_main (A : Option Addr) (n cap : Nat) (l : List Mk) (gen next : Nat) (w : World) (hz : InM w A n cap l) (hg : gen < 18446744073709551616) (hx : next < 18446744073709551616) (hn : n ≤ 23) (hne : gen ≠ next) :
    Calls Try.prog 15 #[.slice A n cap, .int .u64 gen, .int .u64 next] w fun e w' => e = .returned (.bool true) ∧ Fr Nob w w' := by
  have Z := Lib.hid hz
  have HG := Lib.hid hg
  have HX := Lib.hid hx
  have HNE := Lib.hid hne
  have hn2 : ¬ (23 : Int) < (n : Int) := by omega
  have hne2 : ((gen : Int) == (next : Int)) = false := beq_false_of_ne (by omega)
  clear hz hg hx hne
  go_enter Try.func15, Try.ntmps15
  go_wp2_with fail
  refine (awake6_eq w).mono ?_
  rintro e w0 ⟨rfl, f0⟩
  have F0 := Lib.hid f0
  clear f0
  go_wp2_with fail
  refine (DL.new (n := 6) F0.out (by omega) (by omega)).mono ?_
  rintro e w1 ⟨q, K, rfl, d, _, _⟩
  have OP := Lib.hid (JL.opened d rfl (first := 1) (pages := 4) (gen := gen) (by omega) (by simp [Dv.new]) (by simp [Dv.new]))
  clear d
  go_wp2_with fail
  refine OP.out.mono ?_
  rintro e w2 ⟨j, rfl, m, D1, a1, lk1, _⟩
  rw [opened_none (show (Dv.new 6).now 1 = .blank from rfl)] at a1
  have C1 := Lib.hid ((CalmN.new 6).like lk1)
  have LS := Lib.hid (show D1.loss = 0 from lk1.loss)
  have N11 : Hid (D1.now 1 = .blank) := Lib.hid (lk1.now 1)
  have N12 : Hid (D1.now 2 = .blank) := Lib.hid (lk1.now 2)
  have AD := Lib.hid (a1.add_any C1.out (Z.out.rd.nob a1.fr) (by rw [Z.out.len]; exact hn) LS.out.symm (by show 0 < 4; omega) (fun h0 k hk => by
    have h1 := Z.out.old (by rw [← Z.out.len]; exact h0) k hk
    refine ⟨fun h => ?_, fun e => ?_, fun e => ?_⟩
    · have := a1.dl.kle k h; omega
    · have := a1.wj; omega
    · have := a1.wm; omega))
  clear a1 lk1 OP
  go_wp2_with fail
  refine AD.out.mono ?_
  rintro e w3 ⟨rfl, D3, J3, a3, ad3, _⟩
  have C3 : Hid (CalmN 6 D3) := Lib.hid (by
    rcases ad3 with ⟨_, h, _⟩ | ⟨_, h, _⟩
    · rw [h]; exact C1.out
    · rw [h]; exact C1.out.addD _ _)
  have L3 : Hid (D3.loss = 0) := Lib.hid (by
    rcases ad3 with ⟨_, h, _⟩ | ⟨_, h, _⟩
    · rw [h]; exact LS.out
    · rw [h, C1.out.loss_addD]; exact LS.out)
  have N3 : Hid (D3.now 2 = .blank) := Lib.hid (by
    rcases ad3 with ⟨_, h, _⟩ | ⟨_, h, _⟩
    · rw [h]; exact N12.out
    · rw [h, C1.out.now_addD _ _ (by show 1 + 0 < 6; omega)]; exact (if_neg (by show ¬ 2 = 1 + 0; omega)).trans N12.out)
  have J3F : Hid (J3.first = 1 ∧ J3.pages = 4 ∧ J3.loss = 0) := Lib.hid (by
    rcases ad3 with ⟨_, _, h⟩ | ⟨_, _, h⟩
    · rw [h]; exact ⟨rfl, rfl, rfl⟩
    · rw [h]; exact ⟨rfl, rfl, rfl⟩)
  have O3 : Hid (opened D3 1 4 next = ⟨1, 4, next, 0, 0, []⟩) := Lib.hid (by
    rcases ad3 with ⟨_, h, _⟩ | ⟨_, h, _⟩
    · rw [opened_none (by rw [h]; exact N11.out), L3.out]
    · rw [opened_other (g := gen) (l := l) (by rw [h, C1.out.now_addD _ _ (by show 1 + 0 < 6; omega)]; exact if_pos rfl) HG.out (by rw [Z.out.len]; exact hn) Z.out.ok HNE.out, L3.out])
  have OP2 := Lib.hid (a3.open2 C3.out.2.1 (first := 1) (pages := 4) (gen := next) (by omega) (by rw [C3.out.1]; omega))
  clear a3 ad3 AD
  go_wp2_with fail
  refine OP2.out.mono ?_
  rintro e w4 ⟨k, rfl, nn, D4, b4, a4, lk4, _, _, _, _, _⟩
  rw [O3.out] at b4
  have C4 := Lib.hid (C3.out.like lk4)
  have L4 := Lib.hid (lk4.loss.trans L3.out)
  have N4 := Lib.hid ((lk4.now 2).trans N3.out)
  have MK := Lib.hid (b4.marks (by show 0 ≤ 1; omega))
  have A4 := Lib.hid a4
  have B4 := Lib.hid b4
  clear a4 b4 lk4 OP2
  go_wp2_with (first
    | (go_at_call 52; (with_reducible refine MK.out.mono ?_); rintro e w5 ⟨lv, rfl, own5, f5⟩; obtain ⟨la, lc, rfl, _⟩ := RdM.of_row own5; have RO := Lib.hid ((B4.out.nob f5).room 4 (by show (4 : Int) = 4 - 0; omega)); have A5 := Lib.hid (A4.out.nob f5); clear own5 f5)
    | (go_at_call 51; (with_reducible refine RO.out.mono ?_); rintro e w6 ⟨rfl, f6⟩; have BG := Lib.hid ((A5.out.nob f6).begin next); clear f6))
  refine BG.out.mono ?_
  rintro e w7 ⟨rfl, m', a7, _, _⟩
  have hJ : ({ J3 with gen := next, used := 0, M := [] } : Jn) = ⟨1, 4, next, 0, 0, []⟩ := by
    obtain ⟨h1, h2, h3⟩ := J3F.out
    obtain ⟨jf, jp, jg, ju, jl, jm⟩ := J3
    simp only at h1 h2 h3
    subst h1 h2 h3
    rfl
  rw [hJ] at a7
  have A7 := Lib.hid a7
  clear a7 hJ BG RO MK
  go_upto_region 13 with fail
  go_cut [84] (fun s W => s = .bool false ∧ Hid (Fr Nob w7 W))
  case first =>
    by_cases h0 : n = 0
    · have hd : decide ((0 : Int) < (n : Int)) = false := decide_eq_false (by omega)
      have hn0 : ¬ (0 : Int) < (n : Int) := by omega
      subst h0
      go_quiet (fail)
      go_wp2_with fail
      go_meet
      exact ⟨rfl, Lib.hid ((Fr.refl Nob w7).drewN _)⟩
    · have hd : decide (0 < n) = true := decide_eq_true (by omega)
      have hnn : 0 < n := by omega
      have hn0 : (0 : Int) < (n : Int) := by omega
      obtain ⟨A', cap', he, hc⟩ := Z.out.rd.nob A7.out.fr
      simp only [Value.slice.injEq] at he
      obtain ⟨rfl, he2, rfl⟩ := he
      obtain ⟨g, o, rfl, hcell⟩ := hc (by omega)
      obtain ⟨c0, c1⟩ := hcell 0 (by omega)
      rw [Nat.zero_mul, Nat.add_zero] at c0 c1
      generalize l.getD 0 (0, 0) = mk at *
      obtain ⟨x, y⟩ := mk
      clear hcell hc he2
      go_quiet ((first
        | (go_at_call 54; exact quietL (gone_eq (A7.out.ji.nob ((Fr.refl Nob w7).drewN _)) x y))
        | (go_at_call 51; exact quietD (room_q (A7.out.ji.nob ((Fr.refl Nob w7).drewN _)) (Nat.zero_le _) (by show 4 ≤ 5000; omega) 4 (by show (4 : Int) = 4 - 0; omega)))))
      go_wp2_with fail
      go_meet
      exact ⟨rfl, Lib.hid ((Fr.refl Nob w7).drewN _)⟩
  case rest =>
    obtain ⟨rfl, f8⟩ := hcut
    generalize wc = w8 at *
    have AD := Lib.hid ((A7.out.nob f8.out).add1 C4.out 1 1 L4.out.symm (by show 0 < 4; omega))
    clear f8 A7
    go_wp2_with fail
    refine AD.out.mono ?_
    rintro e w9 ⟨rfl, a9, _⟩
    obtain ⟨D9, hD9⟩ : ∃ D9, D9 = addD D4 ⟨1, 4, next, 0, 0, []⟩ [(1, 1)] := ⟨_, rfl⟩
    rw [← hD9] at a9
    have C9 : Hid (CalmN 6 D9) := Lib.hid (by rw [hD9]; exact C4.out.addD _ _)
    have O9 : Hid (opened D9 1 4 next = ⟨1, 4, next, 1, 0, [(1, 1)]⟩) := Lib.hid (by
      rw [opened_whole (D := D9) (first := 1) (pages := 4) (gen := next) (l := [(1, 1)]) HX.out (by simp) (by simp [Mk.ok]) (by rw [hD9, C4.out.now_addD _ _ (by show 1 + 0 < 6; omega)]; exact if_pos rfl) (by rw [hD9, C4.out.now_addD _ _ (by show 1 + 0 < 6; omega)]; exact (if_neg (by show ¬ 1 + 1 = 1 + 0; omega)).trans N4.out) (by omega)]
      rw [hD9, C4.out.loss_addD, L4.out]
      rfl)
    have OP3 := Lib.hid (a9.open2 C9.out.2.1 (first := 1) (pages := 4) (gen := next) (by omega) (by rw [C9.out.1]; omega))
    clear a9 hD9 AD
    go_wp2_with fail
    refine OP3.out.mono ?_
    rintro e w10 ⟨oo, rfl, no, D10, b10, _, _, _, _, _, _, _⟩
    rw [O9.out] at b10
    have G1 : Hid (Calls Try.prog 54 #[.pointer (some ⟨oo, 0, none⟩), .int .u64 1, .int .u64 1] w10 fun e w' => e = .returned (.bool true) ∧ w10 = w') := Lib.hid (gone_eq b10.ji 1 1)
    have MK := Lib.hid (b10.marks (by show 1 ≤ 1; omega))
    have B10 := Lib.hid b10
    clear b10 OP3
    go_wp2_with (first
      | (go_at_call 54; (with_reducible refine G1.out.mono ?_); rintro e w' ⟨rfl, rfl⟩)
      | (go_at_call 52; (with_reducible refine MK.out.mono ?_); rintro e w11 ⟨lv, rfl, own11, f11⟩; obtain ⟨la, lc, rfl, _⟩ := RdM.of_row own11; have RO := Lib.hid ((B10.out.nob f11).room 3 (by show (3 : Int) = 4 - 1; omega)); have F11 := Lib.hid (B10.out.nob f11).fr; clear own11 f11)
      | (go_at_call 51; (with_reducible refine RO.out.mono ?_); rintro e w12 ⟨rfl, f12⟩))
    go_ret
    exact ⟨rfl, F11.out.trans' f12⟩

set_option maxHeartbeats 1000000 in
theorem tombGens_walk (A : Option Addr) (n cap : Nat) (l : List Mk) (g0 x0 : Int) (w : World) (hz : InM w A n cap l) (hg : (Lit.int .u64 g0).wf = true) (hx : (Lit.int .u64 x0).wf = true) :
    Calls Try.prog 15 #[.slice A n cap, .int .u64 g0, .int .u64 x0] w fun e w' => e = .returned (.bool true) ∧ Fr Nob w w' := by
  obtain ⟨gen, rfl, hg2⟩ := u64_nat hg
  obtain ⟨next, rfl, hx2⟩ := u64_nat hx
  by_cases hn : n ≤ 23
  · by_cases hne : gen = next
    · have hn2 : ¬ (23 : Int) < (n : Int) := by omega
      subst hne
      go_enter Try.func15, Try.ntmps15
      go_wp2_with fail
      refine (awake6_eq w).mono ?_
      rintro e w0 ⟨rfl, f0⟩
      go_wp2_with fail
      go_ret
      exact ⟨rfl, f0⟩
    · exact tombGens_main A n cap l gen next w hz hg2 hx2 hn hne
  · have hn2 : (23 : Int) < (n : Int) := by omega
    go_enter Try.func15, Try.ntmps15
    go_wp2_with fail
    refine (awake6_eq w).mono ?_
    rintro e w0 ⟨rfl, f0⟩
    go_wp2_with fail
    go_ret
    exact ⟨rfl, f0⟩

end Go.Proofs.Ytpdljgjofebgpaa
