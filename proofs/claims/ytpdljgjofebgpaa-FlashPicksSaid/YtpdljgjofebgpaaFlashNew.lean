/-
  Law 3: FlashNew, walked.
-/
import Derived.Test.YtpdljgjofebgpaaReadS
import Derived.Test.YtpdljgjofebgpaaSupH
import Derived.Test.YtpdljgjofebgpaaFlashAw
namespace Go.Proofs.Ytpdljgjofebgpaa
open Go.RowKit Go.ChangeShapes Go.WideShapes Go.Deep

theorem row_someB {w : World} {base n : Nat} {t : TypeId} {v : Value} {xs : List Value} (h : w.ownsRow base t 1 v n xs) (h0 : 0 < n) : ∃ g cap, v = .slice (some ⟨g, 0, none⟩) n cap ∧ n ≤ cap := by
  rcases h.2 with ⟨rfl, h1⟩ | ⟨g, cap, cur, rfl, _, _, h2, _⟩
  · omega
  · exact ⟨g, cap, rfl, h2⟩

/-- No power is to go: n pages. -/
def CalmN' (n : Nat) (D : Dv) : Prop := D.pg.length = n ∧ D.off = false ∧ D.arm ≤ 0
theorem CalmN'.new (n : Nat) : CalmN' n (Dv.new n) := ⟨by unfold Dv.new; simp, rfl, Int.le_refl 0⟩
theorem CalmN'.spend {n : Nat} {D : Dv} (h : CalmN' n D) : D.spend = D := spend_on h.2.1 h.2.2
theorem CalmN'.change {n : Nat} {D : Dv} (h : CalmN' n D) (i : Nat) (p : Pg) : CalmN' n (D.change i p) := by
  refine ⟨by rw [change_len]; exact h.1, ?_⟩
  unfold Dv.change
  rw [h.spend, if_neg (by simp [h.2.1])]
  exact h.2
theorem CalmN'.flush {n : Nat} {D : Dv} (h : CalmN' n D) : CalmN' n D.flush := by
  refine ⟨by rw [flush_len]; exact h.1, ?_⟩
  unfold Dv.flush
  rw [h.spend, if_neg (by simp [h.2.1])]
  exact h.2
theorem CalmN'.now_change {n : Nat} {D : Dv} (h : CalmN' n D) {i j : Nat} (p : Pg) (hi : i < n) : (D.change i p).now j = if j = i then p else D.now j := by
  have hl := h.1
  unfold Dv.change
  rw [h.spend, if_neg (by simp [h.2.1])]
  unfold Dv.put Dv.now
  simp only
  rw [List.getD_eq_getElem?_getD, List.getElem?_modify]
  by_cases hj : j = i
  · subst hj
    rw [if_pos rfl, List.getElem?_eq_getElem (by omega)]
    simp [Pc.now]
  · rw [if_neg hj]
    simp [Ne.symm hj, List.getD_eq_getElem?_getD]
theorem CalmN'.now_flush {n : Nat} {D : Dv} (h : CalmN' n D) (j : Nat) : D.flush.now j = D.now j := by
  unfold Dv.flush
  rw [h.spend, if_neg (by simp [h.2.1])]
  unfold Dv.sunk Dv.now
  simp only
  rw [List.getD_eq_getElem?_getD, List.getElem?_map, List.getD_eq_getElem?_getD]
  cases D.pg[j]? <;> simp [Pc.now]
theorem CalmN'.read {n : Nat} {D : Dv} (h : CalmN' n D) : CalmN' n D.read := h

theorem RdB.head {w : World} {a : Option Addr} {n cap : Nat} {bs : List UInt8} (h : RdB w (.slice a n cap) bs) {k : Nat} (hk : k ≤ bs.length) : RdB w (.slice a k cap) (bs.take k) := by
  obtain ⟨a', cap', he, hc⟩ := h
  simp only [Value.slice.injEq] at he
  obtain ⟨rfl, rfl, rfl⟩ := he
  refine ⟨a, cap, by rw [List.length_take, Nat.min_eq_left hk], fun h0 => ?_⟩
  rw [List.length_take, Nat.min_eq_left hk] at h0
  obtain ⟨g, o, rfl, hc2⟩ := hc (by omega)
  refine ⟨g, o, rfl, fun j hj => ?_⟩
  rw [List.length_take, Nat.min_eq_left hk] at hj
  rw [hc2 j (by omega)]
  simp [List.getD_eq_getElem?_getD, hj]

/-- A store into a block of the call's own that is no page. -/
theorem DL.poke {W w : World} {q : Nat} {K N : Nat → Prop} {D : Dv} (h : DL W w q K N D) {g : Nat} (hN : N g) (hK : ¬ K g) (hW : W.heap.size ≤ g) (o : Nat) (u : Value) : DL W (w.setCell ⟨g, o, none⟩ u) q K N D :=
  h.keep (T := One g) ((Fr.refl (One g) w).set1 u) (h.fr.trans ((Fr.refl (One g) w).set1 (o := o) u) fun i hi e => by
    have : i = g := e
    omega) fun k hk _ => by
    have : k = g := hk
    rw [this]
    exact ⟨hN, hK⟩

set_option maxRecDepth 100000 in
set_option maxHeartbeats 8000000 in
theorem flashNew_main (pages page : Nat) (PA : Option Addr) (pn pc : Nat) (pl : List UInt8) (w : World) (hpi : InB w PA pn pc pl) (h1 : 1 ≤ pages) (h20 : pages ≤ 20) (hp : page < pages) (hn : pn ≤ 384) :
    Calls Try.prog 8 #[.int .i64 pages, .int .i64 page, .slice PA pn pc] w fun e w' => e = .returned (.bool true) ∧ Fr Nob w w' := by
  have PI := Lib.hid hpi
  have e1 : ¬ (pages : Int) < 1 := by omega
  have e2 : ¬ (20 : Int) < (pages : Int) := by omega
  have e3 : ¬ (page : Int) < 0 := by omega
  have e4 : ¬ (pages : Int) ≤ (page : Int) := by omega
  have e5 : ¬ (384 : Int) < (pn : Int) := by omega
  clear hpi
  go_enter Try.func8, Try.ntmps8
  go_wp2_with fail
  refine (awake3_eq w).mono ?_
  rintro e w0 ⟨rfl, f0⟩
  have F0 := Lib.hid f0
  clear f0
  go_wp2_with fail
  refine (DL.new (n := pages) F0.out (by omega) (by omega)).mono ?_
  rintro e w1 ⟨q, K, rfl, d, _, _⟩
  have D1 := Lib.hid d
  clear d
  go_upto_region 8 with fail
  go_cut [9] (fun s W => ∃ g c, s = .slice (some ⟨g, 0, none⟩) pn c ∧ Hid (W.ownsRow w1.heap.size 5 1 (.slice (some ⟨g, 0, none⟩) pn c) pn (bytesV pl)) ∧ Hid (Fr Nob w1 W))
  case first =>
    have own0 : (w1.alloc (.cells #[] 5)).ownsRow w1.heap.size 5 1 (.slice (some ⟨w1.heap.size, 0, none⟩) 0 0) 0 [] := ⟨rfl, .inr ⟨w1.heap.size, 0, #[], rfl, Nat.le_refl _, heap_alloc_new w1 _, Nat.le_refl _, by unfold maxLen; omega, rfl, rfl⟩⟩
    have fa : Fr Nob w1 (w1.alloc (.cells #[] 5)) := (Fr.refl Nob w1).alloc _
    have O0 := Lib.hid own0
    have FA := Lib.hid fa
    have PR := Lib.hid (PI.out.rd.nob (D1.out.fr.trans' fa))
    have LN := Lib.hid PI.out.len
    by_cases h0 : 0 < pl.length
    · obtain ⟨a', c', he, hc⟩ := PR.out
      have he' := he
      simp only [Value.slice.injEq] at he'
      obtain ⟨rfl, hl, rfl⟩ := he'
      obtain ⟨ad, had, hnews⟩ := RdB.news (a := PA) (cap := pc) (bs := pl) (by rw [← hl]; exact PR.out) h0
      subst had
      have NEWS := Lib.hid hnews
      have ONE := Lib.hid (bytesV_one pl)
      have LV := Lib.hid (bytesV_len pl)
      clear own0 fa hc he hl hnews
      go_wp2_with (with_reducible refine wpList_app (o := ⟨some 54, _, _, _, _, _⟩) rfl (.tmp 52) (.tmp 53) 34 rfl 5 #[.int .u8 0] 1 1 Try.underlying34 u8_info' rfl (by omega) w1.heap.size (.slice (some ⟨w1.heap.size, 0, none⟩) 0 0) 0 [] rfl O0.out ad pn pc (bytesV pl) rfl (by rw [LV.out, LN.out, Nat.mul_one]) NEWS.out ONE.out (by omega) (by omega) (by simp) ?_)
      intro v' w2 o2 f2 _
      have o2' := o2.out
      obtain ⟨g, c, rfl, _⟩ := row_someB o2' (by rw [← LN.out]; exact h0)
      have F2 : Hid (Fr Nob w1 w2) := Lib.hid (FA.out.trans f2.out fun i hi (e : (Value.slice (some ⟨w1.heap.size, 0, none⟩) 0 0).ownBlock = some i) => by
        have : w1.heap.size = i := by simpa [Value.ownBlock] using e
        omega)
      have O2 := Lib.hid o2'
      clear o2 o2' f2
      go_wp2_with fail
      go_meet
      exact ⟨g, c, rfl, O2, F2⟩
    · have hl : pl = [] := List.length_eq_zero_iff.1 (by omega)
      have hpn : pn = 0 := by rw [← LN.out, hl]; rfl
      subst hl
      subst hpn
      clear own0 fa h0
      go_wp2_with (with_reducible refine wpList_app_none' (o := ⟨some 54, _, _, _, _, _⟩) rfl (.tmp 52) (.tmp 53) 34 rfl 5 #[.int .u8 0] 1 1 Try.underlying34 u8_info' (some ⟨w1.heap.size, 0, none⟩) 0 0 (Nat.le_refl _) rfl PA pc rfl ?_)
      go_meet
      exact ⟨w1.heap.size, 0, rfl, O0, FA⟩
  case rest =>
    obtain ⟨g, c, rfl, o2, f2⟩ := hcut
    generalize wc = w2 at *
    have hgl : w1.heap.size ≤ g ∧ g < w2.heap.size := o2.out.lt g rfl
    have GL := Lib.hid hgl
    have LN := Lib.hid PI.out.len
    have D2 : Hid (DL w w2 q K (One g) (Dv.new pages)) := Lib.hid (D1.out.more f2.out fun k hk => .inr (by
      have : k = g := hk
      rw [this]
      exact hgl))
    have GK : Hid (¬ K g) := Lib.hid fun h => by
      have := D1.out.klt g h
      omega
    have GW : Hid (w.heap.size ≤ g) := Lib.hid (by
      have := D1.out.fr.size
      omega)
    have RM : Hid (RdB w2 (.slice (some ⟨g, 0, none⟩) pn c) pl) := Lib.hid (by
      have h := o2.out
      rw [← LN.out] at h ⊢
      exact RdB.of_row h)
    have C0 := Lib.hid (CalmN'.new pages)
    have WR := Lib.hid (D2.out.write (i := page) (by rw [C0.out.1]; exact hp) RM.out (by rw [LN.out]; exact hn) false (by rw [C0.out.spend]; exact C0.out.2.1))
    clear hgl
    go_wp2_with fail
    refine WR.out.mono ?_
    rintro e w3 ⟨rfl, d3, f3⟩
    rw [errOff_false]
    obtain ⟨E3, hE3⟩ : ∃ E, E = (Dv.new pages).change page (.whole (pad pl)) := ⟨_, rfl⟩
    have C3 : Hid (CalmN' pages E3) := Lib.hid (by rw [hE3]; exact C0.out.change _ _)
    have NW : Hid (E3.now page = .whole (pad pl)) := Lib.hid (by rw [hE3, C0.out.now_change _ hp, if_pos rfl])
    have O3 : Hid (w3.ownsRow w1.heap.size 5 1 (.slice (some ⟨g, 0, none⟩) pn c) pn (u8s (pl.map fun b => (b.toNat : Int)))) := Lib.hid (by
      rw [← bytesV_u8s]
      exact f3.ownsRow o2.out fun k hk => by
        have : g = k := by simpa [Value.ownBlock] using hk
        rw [← this]
        exact GK.out)
    rw [← hE3] at d3
    have D3 := Lib.hid d3
    clear d3 f3 WR RM D2 hE3 o2 f2 C0
    go_wp2_with fail
    go_loopw [10] (fun i wr => ∃ (k : Nat) (l : List Int), k ≤ pn ∧ i = .int .i64 k ∧ Hid (wr.ownsRow w1.heap.size 5 1 (.slice (some ⟨g, 0, none⟩) pn c) pn (u8s l)) ∧ Hid (DL w wr q K (One g) E3)) (fun i _ => pn - (intOf i).toNat)
    case atStart => exact ⟨0, _, Nat.zero_le _, rfl, O3, D3⟩
    case round =>
      clear O3 D3
      obtain ⟨k, l, hk, rfl, o4, d4⟩ := hrel
      by_cases hlt : k < pn
      · have hki : (k : Int) < (pn : Int) := by omega
        obtain ⟨⟨x, hx⟩, hz⟩ := row_u8 o4.out hlt
        go_wp2_with fail
        go_roundw
        case rel =>
          have h := row_set o4.out k (.int .u8 (bits BinOp.xor IntKind.u8 x 255))
          rw [u8s_set] at h
          exact ⟨k + 1, _, by omega, by go_num, Lib.hid h, Lib.hid (d4.out.poke rfl GK.out GW.out _ _)⟩
        case measure => simp [intOf]; omega
      · have : k = pn := by omega
        subst this
        have RE := Lib.hid (d4.out.read_new (i := page) (by rw [C3.out.1]; exact hp) C3.out.2.1 NW.out)
        have KL := Lib.hid d4.out.klt
        have FW := Lib.hid d4.out.fr
        clear o4 d4
        go_wp2_with fail
        refine RE.out.mono ?_
        rintro e w5 ⟨vx, rfl, ox, hpl, dx, _⟩
        obtain ⟨gx, cx, rfl, hcx⟩ := row_someB ox (by omega)
        have lx := ox.lt gx rfl
        have KX : Hid (¬ K gx) := Lib.hid fun h => by
          have := KL.out gx h
          omega
        have WX : Hid (w.heap.size ≤ gx) := Lib.hid (by
          have := FW.out.size
          omega)
        have rx : RdB w5 (.slice (some ⟨gx, 0, none⟩) 384 cx) (pad pl) := by
          have h := ox
          rw [← hpl] at h ⊢
          exact RdB.of_row h
        have rx2 : RdB w5 (.slice (some ⟨gx, 0, none⟩) k cx) pl := by
          have h := rx.head (k := pl.length) (by rw [hpl, LN.out]; exact hn)
          rw [pad_take, LN.out] at h
          exact h
        have CV1 : ∀ nq, (convert 34 9 (.slice (some ⟨gx, 0, none⟩) k cx)).run Try.prog (w5.drewN nq) = .ok (.string ⟨pl.toArray⟩) (w5.drewN nq) := fun nq =>
          (rx2.nob ((Fr.refl Nob w5).drewN nq)).text _ _ _ Try.underlying34 Try.underlying5 Try.underlying9
        have CV2 : ∀ nq, (convert 34 9 (.slice PA k pc)).run Try.prog (w5.drewN nq) = .ok (.string ⟨pl.toArray⟩) (w5.drewN nq) := fun nq =>
          (PI.out.rd.nob (dx.fr.drewN nq)).text _ _ _ Try.underlying34 Try.underlying5 Try.underlying9
        have CV3 : ∀ nq, (convert 34 9 (.slice (some ⟨gx, 0, none⟩) 384 cx)).run Try.prog (w5.drewN nq) = .ok (.string ⟨(pad pl).toArray⟩) (w5.drewN nq) := fun nq =>
          (rx.nob ((Fr.refl Nob w5).drewN nq)).text _ _ _ Try.underlying34 Try.underlying5 Try.underlying9
        have OX : Hid (w5.ownsRow wr.heap.size 5 1 (.slice (some ⟨gx, 0, none⟩) 384 cx) 384 (u8s ((pad pl).map fun b => (b.toNat : Int)))) := Lib.hid (by rw [← bytesV_u8s]; exact ox)
        have DX := Lib.hid dx
        have PL := Lib.hid hpl
        have s1 : (0 : Int) ≤ (k : Int) := by omega
        have s2 : (k : Int) ≤ (cx : Int) := by omega
        have s3 : (k : Int) ≤ (384 : Int) := by omega
        clear RE rx rx2 ox dx hpl
        go_wp2_with fail
        go_quiet (fail)
        obtain ⟨Wd, hWd⟩ : ∃ Wd, Wd = w5.drewN nq := ⟨_, rfl⟩
        have fd : Fr Nob w5 Wd := by rw [hWd]; exact (Fr.refl Nob w5).drewN nq
        have CV4 : (convert 34 9 (.slice (some ⟨gx, 0, none⟩) 384 cx)).run Try.prog Wd = .ok (.string ⟨(pad pl).toArray⟩) Wd := by rw [hWd]; exact CV3 nq
        rw [← hWd]
        have OY := Lib.hid (fd.ownsRow OX.out fun _ _ h => h)
        have DY := Lib.hid (DX.out.nob fd)
        clear CV1 CV2 CV3 hWd fd OX DX s1 s2 s3
        go_wp2_with fail
        go_loopw [14] (fun i wr2 => ∃ (k : Nat) (l : List Int), k ≤ 384 ∧ i = .int .i64 k ∧ Hid (wr2.ownsRow wr.heap.size 5 1 (.slice (some ⟨gx, 0, none⟩) 384 cx) 384 (u8s l)) ∧ Hid (DL w wr2 q K (fun k => One g k ∨ (Value.slice (some ⟨gx, 0, none⟩) 384 cx).ownBlock = some k) E3.read)) (fun i _ => 384 - (intOf i).toNat)
        case atStart => exact ⟨0, _, Nat.zero_le _, rfl, OY, DY⟩
        case round =>
          clear OY DY CV4
          obtain ⟨k2, l2, hk2, rfl, o6, d6⟩ := hrel
          by_cases hlt2 : k2 < 384
          · have hki : (k2 : Int) < (384 : Int) := by omega
            obtain ⟨⟨x, hx⟩, hz⟩ := row_u8 o6.out hlt2
            go_wp2_with fail
            go_roundw
            case rel =>
              have h := row_set o6.out k2 (.int .u8 (bits BinOp.xor IntKind.u8 x 255))
              rw [u8s_set] at h
              exact ⟨k2 + 1, _, by omega, by go_num, Lib.hid h, Lib.hid (d6.out.poke (.inr rfl) KX.out WX.out _ _)⟩
            case measure => simp [intOf]; omega
          · have : k2 = 384 := by omega
            subst this
            have C4 : Hid (CalmN' pages E3.read) := Lib.hid C3.out
            have NW4 : Hid (E3.read.now page = .whole (pad pl)) := Lib.hid NW.out
            have RE2 := Lib.hid (d6.out.read_new (i := page) (by rw [C4.out.1]; exact hp) C4.out.2.1 NW4.out)
            have KL2 := Lib.hid d6.out.klt
            have FW2 := Lib.hid d6.out.fr
            clear o6 d6 hlt2 hk2 l2
            go_wp2_with fail
            refine RE2.out.mono ?_
            rintro e w7 ⟨vy, rfl, oy, _, dy, _⟩
            obtain ⟨gy, cy, rfl, hcy⟩ := row_someB oy (by omega)
            have ly := oy.lt gy rfl
            have KY : Hid (¬ K gy) := Lib.hid fun h => by
              have := KL2.out gy h
              omega
            have WY : Hid (w.heap.size ≤ gy) := Lib.hid (by
              have := FW2.out.size
              omega)
            have C5 : Hid (CalmN' pages E3.read.read) := Lib.hid C4.out
            have NW5 : Hid (E3.read.read.now page = .whole (pad pl)) := Lib.hid NW4.out
            generalize E3.read.read = E5 at *
            obtain ⟨N5, hN5⟩ : ∃ N : Nat → Prop, N = (fun k => (One g k ∨ (Value.slice (some ⟨gx, 0, none⟩) 384 cx).ownBlock = some k) ∨ (Value.slice (some ⟨gy, 0, none⟩) 384 cy).ownBlock = some k) := ⟨_, rfl⟩
            have NY : Hid (N5 gy) := Lib.hid (by rw [hN5]; exact .inr rfl)
            rw [← hN5] at dy
            have DY5 := Lib.hid dy
            have CO := Lib.hid dy.copy
            have OY5 := Lib.hid oy
            have LY := Lib.hid ly
            clear RE2 oy dy hN5 ly
            go_wp2_with fail
            refine CO.out.mono ?_
            rintro e w8 ⟨q2, K2, rfl, do8, dd8, f8, hk8⟩
            have KY2 : Hid (¬ K2 gy) := Lib.hid fun h => by
              have := hk8 gy h
              have := LY.out.2
              omega
            have KK : Hid (∀ k, K2 k → ¬ K k) := Lib.hid fun k h h2 => by
              have := hk8 k h
              have := DY5.out.klt k h2
              omega
            have O8 : Hid (w8.ownsRow wr.heap.size 5 1 (.slice (some ⟨gy, 0, none⟩) 384 cy) 384 (u8s ((pad pl).map fun b => (b.toNat : Int)))) := Lib.hid (by
              rw [← bytesV_u8s]
              exact f8.ownsRow OY5.out fun _ _ h => h)
            have D8 := Lib.hid dd8
            have E8 := Lib.hid do8
            clear do8 dd8 f8 hk8 CO DY5 OY5
            go_wp2_with fail
            go_loopw [18] (fun i wr3 => ∃ (k : Nat) (l : List Int), k ≤ 384 ∧ i = .int .i64 k ∧ Hid (wr3.ownsRow wr.heap.size 5 1 (.slice (some ⟨gy, 0, none⟩) 384 cy) 384 (u8s l)) ∧ Hid (DL w wr3 q K (fun k => N5 k ∨ K2 k) E5) ∧ Hid (DL w wr3 q2 K2 (fun k => N5 k ∨ K k) E5)) (fun i _ => 384 - (intOf i).toNat)
            case atStart => exact ⟨0, _, Nat.zero_le _, rfl, O8, D8, E8⟩
            case round =>
              clear O8 D8 E8
              obtain ⟨k3, l3, hk3, rfl, o9, d9, e9⟩ := hrel
              by_cases hlt3 : k3 < 384
              · have hki : (k3 : Int) < (384 : Int) := by omega
                obtain ⟨⟨x, hx⟩, hz⟩ := row_u8 o9.out hlt3
                go_wp2_with fail
                go_roundw
                case rel =>
                  have h := row_set o9.out k3 (.int .u8 7)
                  rw [u8s_set] at h
                  exact ⟨k3 + 1, _, by omega, by go_num, Lib.hid h, Lib.hid (d9.out.poke (.inl NY.out) KY.out WY.out _ _), Lib.hid (e9.out.poke (.inl NY.out) KY2.out WY.out _ _)⟩
                case measure => simp [intOf]; omega
              · have : k3 = 384 := by omega
                subst this
                have FL := Lib.hid (d9.out.flush false (by rw [C5.out.spend]; exact C5.out.2.1))
                have E9 := Lib.hid e9.out
                have D9 := Lib.hid d9.out
                have CF := Lib.hid C5.out.flush
                have NWF : Hid (E5.flush.now page = .whole (pad pl)) := Lib.hid (by rw [C5.out.now_flush]; exact NW5.out)
                clear o9 d9 e9 hlt3 hk3 l3
                go_wp2_with fail
                refine FL.out.mono ?_
                rintro e w10 ⟨rfl, d10, f10⟩
                have e10 : Hid (DL w w10 q2 K2 (fun k => N5 k ∨ K k) E5) := Lib.hid (E9.out.keep f10 d10.fr fun k h _ => ⟨.inr h, fun h2 => KK.out k h2 h⟩)
                have RZ := Lib.hid (d10.read_whole (i := page) (by rw [CF.out.1]; exact hp) CF.out.2.1 NWF.out)
                clear FL d10 f10 D9 E9
                go_wp2_with fail
                refine RZ.out.mono ?_
                rintro e w11 ⟨vz, rfl, oz, hpl, d11, f11⟩
                obtain ⟨gz, cz, rfl, hcz⟩ := row_someB oz (by omega)
                have e11 := e10.out.keep f11 d11.fr fun k h _ => ⟨.inr h, fun h2 => KK.out k h2 h⟩
                have RW := Lib.hid (e11.read_whole (i := page) (by rw [C5.out.1]; exact hp) C5.out.2.1 NW5.out)
                have OZ := Lib.hid oz
                have KZ : Hid (¬ K2 gz) := Lib.hid fun h => by
                  have := e10.out.klt gz h
                  have := (oz.lt gz rfl).1
                  omega
                clear RZ oz d11 e10
                go_wp2_with fail
                refine RW.out.mono ?_
                rintro e w12 ⟨vw, rfl, ow, _, d12, f12⟩
                obtain ⟨gw, cw, rfl, hcw⟩ := row_someB ow (by omega)
                have oz2 := f12.ownsRow OZ.out fun k hk => by
                  have : gz = k := by simpa [Value.ownBlock] using hk
                  rw [← this]
                  exact KZ.out
                have FE := Lib.hid d12.fr
                have CZ : (convert 34 9 (.slice (some ⟨gz, 0, none⟩) 384 cz)).run Try.prog w12 = .ok (.string ⟨(pad pl).toArray⟩) w12 := by
                  have h := oz2
                  rw [← hpl] at h ⊢
                  exact (RdB.of_row h).text _ _ _ Try.underlying34 Try.underlying5 Try.underlying9
                have CW : (convert 34 9 (.slice (some ⟨gw, 0, none⟩) 384 cw)).run Try.prog w12 = .ok (.string ⟨(pad pl).toArray⟩) w12 := by
                  have h := ow
                  rw [← hpl] at h ⊢
                  exact (RdB.of_row h).text _ _ _ Try.underlying34 Try.underlying5 Try.underlying9
                clear RW OZ ow d12 f12 oz2 e11 f11
                go_wp2_with fail
                go_ret
                exact ⟨rfl, FE.out⟩

set_option maxRecDepth 100000 in
set_option maxHeartbeats 2000000 in
theorem flashNew_walk (p n : Int) (PA : Option Addr) (pn pc : Nat) (pl : List UInt8) (w : World) (_ : (Lit.int .i64 p).wf = true) (_ : (Lit.int .i64 n).wf = true) (hpi : InB w PA pn pc pl) :
    Calls Try.prog 8 #[.int .i64 p, .int .i64 n, .slice PA pn pc] w fun e w' => e = .returned (.bool true) ∧ Fr Nob w w' := by
  by_cases h : (1 ≤ p ∧ p ≤ 20) ∧ (0 ≤ n ∧ n < p) ∧ pn ≤ 384
  · obtain ⟨k, rfl⟩ := Int.eq_ofNat_of_zero_le (a := p) (by omega)
    obtain ⟨m, rfl⟩ := Int.eq_ofNat_of_zero_le (a := n) (by omega)
    exact flashNew_main k m PA pn pc pl w hpi (by omega) (by omega) (by omega) (by omega)
  · have hg : (decide (p < 1) || decide (20 < p) || decide (n < 0) || decide (p ≤ n) || decide ((384 : Int) < (pn : Int))) = true := by
      simp only [Bool.or_eq_true, decide_eq_true_eq]
      omega
    clear h hpi
    go_enter Try.func8, Try.ntmps8
    go_wp2_with fail
    refine (awake3_eq w).mono ?_
    rintro e w0 ⟨rfl, f0⟩
    have F0 := Lib.hid f0
    clear f0
    go_wp2_with fail
    all_goals
      go_ret
      exact ⟨rfl, F0.out⟩

end Go.Proofs.Ytpdljgjofebgpaa
