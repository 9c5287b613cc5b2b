/-
  The reference's Seg: Remove where the number is not there; Evict.
-/
import Derived.Test.YthcalhmiielfkaaSegX
import Derived.Test.YthcalhmiielfkaaSegSim2
import Derived.Deep.DeepCutAuto
import Derived.Deep.CutBlock
import Derived.Deep.RegionHeld3
namespace Go.Proofs.Ythcalhmiielfkaa
open Go.RowKit

theorem rremove_no {w : World} {q : Nat} {K : Nat → Prop} {R : Nat → List Nd} (s : RAt w q K R) (hn : rLen R ≤ 10000) (x : Int) (hx : rHas R x = false) :
    Calls Try.prog 18 #[.pointer (some ⟨q, 0, none⟩), .int .i64 x] w fun e w' => e = .returned (.bool false) ∧ RTo w q K w' R := by
  have s0 := Lib.hid s
  clear s
  go_enter Try.func18, Try.ntmps18
  go_wp2_with fail
  refine (has_eq s0.out (by omega) x).mono ?_
  rintro e w1 ⟨rfl, f1⟩
  rw [hx]
  have F1 := Lib.hid f1
  clear f1
  go_wp2_with fail
  go_ret
  exact ⟨rfl, K, s0.out.keep F1.out fun _ _ h => h, F1.out.nob, fun _ h => .inl h⟩

theorem RTo.plus {w w' w'' : World} {q : Nat} {K : Nat → Prop} {R' : Nat → List Nd} (g : RTo w q K w' R') (f : Fr Nob w' w'') : RTo w q K w'' R' := by
  obtain ⟨K', s, f', h⟩ := g
  exact ⟨K', s.keep f fun _ _ h => h, f'.trans f fun _ _ h => h.elim, h⟩

set_option maxRecDepth 100000 in
set_option maxHeartbeats 1600000 in
theorem revict_in {w : World} {q : Nat} {K : Nat → Prop} {R : Nat → List Nd} (s : RAt w q K R) (hn : rLen R ≤ 10000) :
    Calls Try.prog 19 #[.pointer (some ⟨q, 0, none⟩)] w fun e w' => ∃ x ok R', e = .returned (.tuple #[.int .i64 x, .bool ok]) ∧ RTo w q K w' R' ∧ REv R x ok R' := by
  obtain ⟨n, hN⟩ : ∃ n, rLen R = n := ⟨_, rfl⟩
  have HN := Lib.hid hN
  have s0 := Lib.hid (rhas_none s)
  rw [hN] at hn
  clear hN s
  go_enter Try.func19, Try.ntmps19
  go_upto_block 0 with fail
  go_cut [] (fun W => ∃ R3, Hid (RTo w q K W R3) ∧ Hid (rLen R3 = n) ∧ Hid (RMoved R R3))
  case first =>
   go_wp2_with fail
   go_loopg [] ((R 2).length + 1) (fun gk wr => ∃ R3, gk = (R3 2).length + 1 ∧ Hid (RTo w q K wr R3) ∧ Hid (rLen R3 = n) ∧ Hid (∀ R', RMoved R3 R' → RMoved R R'))
   case atStart => exact ⟨R, rfl, s0, HN, Lib.hid fun _ h => h⟩
   case round =>
     obtain ⟨R3, rfl, t3, l3, k3⟩ := hrel
     have t3o := t3.out
     obtain ⟨K3, ⟨V3, s3, hK3⟩, f3, h3⟩ := t3o
     have S3 := Lib.hid s3
     have HK3 := Lib.hid hK3
     have F3 := Lib.hid f3
     have H3 := Lib.hid h3
     obtain ⟨a, cap, hv⟩ := row_shape (s3.rows 2 (by omega))
     have c0 := s3.cells.1 2 (by omega)
     have z0 := s3.cells.2 2
     rw [hv] at c0
     have hle := rLen_le R3 (t := 2) (by omega)
     rw [l3.out] at hle
     clear f3 h3 hK3 s3
     by_cases hq : 0 < (R3 2).length
     · obtain ⟨l, y, hl⟩ := lastN (l := R3 2) hq
       have hlen : (R3 2).length = l.length + 1 := by rw [hl]; simp
       have hrow := S3.out.rows 2 (by omega)
       rw [hv, hlen, hl] at hrow
       obtain ⟨g, rfl⟩ : ∃ g, a = some ⟨g, 0, none⟩ := by
         rcases hrow.2 with ⟨_, h⟩ | ⟨g, cap', _, h, _⟩
         · omega
         · simp only [Value.slice.injEq] at h
           exact ⟨g, h.1⟩
       rw [hlen] at c0 hle
       have hcap : l.length + 1 ≤ cap := by
         rcases hrow.2 with ⟨_, h⟩ | ⟨g', cap', _, h, _, _, h2, _⟩
         · omega
         · simp only [Value.slice.injEq] at h
           obtain ⟨_, _, rfl⟩ := h
           exact h2
       have hwl : IntKind.i64.wrap (l.length : Int) = (l.length : Int) := by rw [IntKind.wrap_i64]; omega
       have hlt : (l.length : Int) < (l.length : Int) + 1 := by omega
       obtain ⟨d1, d2⟩ : wr.cell? ⟨g, l.length * 2, none⟩ = some (.int .i64 y.1) ∧ wr.cell? ⟨g, l.length * 2 + 1, none⟩ = some (.bool y.2) := by
         have hrl : (l ++ [y]).length = l.length + 1 := by simp
         have hr2 : wr.ownsRow 0 59 2 (.slice (some ⟨g, 0, none⟩) (l.length + 1) cap) (l ++ [y]).length (nodesV (l ++ [y])) := by rw [hrl]; exact hrow
         obtain ⟨a', cap', he, hh⟩ := RdNodes.of_row hr2
         obtain ⟨g', hg', e1, e2⟩ := hh l.length (by omega)
         simp only [Value.slice.injEq] at he
         rw [← he.1] at hg'
         have hgg : g = g' := by simpa using hg'
         subst hgg
         have hy : (l ++ [y]).getD l.length (0, false) = y := by simp
         rw [hy] at e1 e2
         exact ⟨e1, e2⟩
       have ROW := Lib.hid hrow
       have HLL := Lib.hid hl
       have HV3 := Lib.hid hv
       have hpos : 0 < (l.length : Int) + 1 := by omega
       clear hrow hl hv hlen hq
       cases hy2 : y.2 with
       | true =>
         rw [hy2] at d2
         have Y2 := Lib.hid hy2
         clear hy2
         go_wp2_with fail
         go_quiet (fail)
         go_wp2_with fail
         have hA0 := S3.out.keep (T := Nob) ((Fr.refl Nob wr).drewN nq) fun _ _ h => h
         obtain ⟨Wd, hWd⟩ : ∃ Wd, Wd = wr.drewN nq := ⟨_, rfl⟩
         have fd : Fr Nob wr Wd := by rw [hWd]; exact (Fr.refl Nob wr).drewN nq
         rw [← hWd] at hA0 ⊢
         have Sd := Lib.hid hA0
         have Fd := Lib.hid fd
         have c0 := fd.cell c0 (fun h => h)
         have d1 := fd.cell d1 (fun h => h)
         have d2 := fd.cell d2 (fun h => h)
         have z0 := (fd.frozen (p := ⟨q, 2, none⟩) (lt_of_block S3.out.top) (fun h => h)).trans z0
         have cA := ((Fr.refl Nob Wd).alloc (.cells #[.int .i64 0, .bool false] 59)).cell c0 (fun h => h)
         have dA1 := ((Fr.refl Nob Wd).alloc (.cells #[.int .i64 0, .bool false] 59)).cell d1 (fun h => h)
         have dA2 := ((Fr.refl Nob Wd).alloc (.cells #[.int .i64 0, .bool false] 59)).cell d2 (fun h => h)
         clear hWd hA0 fd
         go_region
         obtain ⟨X, hX⟩ : ∃ X, X = Wd.heap.size := ⟨_, rfl⟩
         obtain ⟨Wb, hWb⟩ : ∃ Wb, Wb = (Wd.alloc (.cells #[.int .i64 y.1, .bool true] 59)).drew := ⟨_, rfl⟩
         rw [← hWb, ← hX]
         have fb : Fr Nob Wd Wb := by rw [hWb]; exact ((Fr.refl Nob Wd).alloc _).drew
         have hnew : Wb.heap[X]? = some (.cells #[.int .i64 y.1, .bool true] 59 (0, 0)) := by rw [hWb, hX]; exact heap_alloc_new Wd _
         have Sb := Lib.hid (Sd.out.keep fb fun _ _ h => h)
         have cb := Sb.out.cells.1 2 (by omega)
         rw [HV3.out, show (R3 2).length = l.length + 1 by rw [HLL.out]; simp] at cb
         have zb := Sb.out.cells.2 2
         have Fb := Lib.hid (Fd.out.trans' fb)
         have NEW := Lib.hid hnew
         have hXq : q ≠ X := fun e => by
           have := lt_of_block Sd.out.top
           rw [e, hX] at this
           omega
         clear hWb hX fb hnew cA d1 d2 dA1 dA2 c0 z0
         have hll : l.length ≤ cap := by omega
         go_wp2_with fail
         go_region
         have hvb : (Value.slice (some ⟨g, 0, none⟩) l.length cap).ownBlock = (V3 2).ownBlock := by rw [HV3.out]; rfl
         have hcut := row_cut2 (Fb.out.ownsRow ROW.out fun _ _ h => h)
         have sc := (Sb.out.turn (t := 2) (by omega) (l := l) (Fr.refl Nob Wb) hcut (fun g' hg => .inl (hvb ▸ hg))).drew
         have fc : Fr K3 wr (Wb.setCell ⟨q, 2, none⟩ (.slice (some ⟨g, 0, none⟩) l.length cap)).drew := (Fb.out.nob.setCell _ (fun _ => (HK3.out q).2 (.inl rfl)) _).drew
         have hnewc : (Wb.setCell ⟨q, 2, none⟩ (.slice (some ⟨g, 0, none⟩) l.length cap)).drew.heap[X]? = some (.cells #[.int .i64 y.1, .bool true] 59 (0, 0)) := by
           show (Wb.setCell ⟨q, 2, none⟩ (.slice (some ⟨g, 0, none⟩) l.length cap)).heap[X]? = _
           rw [heap_setCell_other Wb _ X _ (fun e => hXq e.symm)]
           exact NEW.out
         generalize (Wb.setCell ⟨q, 2, none⟩ (.slice (some ⟨g, 0, none⟩) l.length cap)).drew = Wc at *
         have Sc := Lib.hid sc
         have Fc := Lib.hid fc
         have HVB := Lib.hid hvb
         have x1 : Wc.cell? ⟨X, 0, none⟩ = some (.int .i64 y.1) := cell_of_row Wc X 0 _ _ (0, 0) hnewc
         clear sc fc hnewc hvb hcut cb zb
         have hyt : (if y.2 then 1 else 2) = 1 := by rw [Y2.out]; rfl
         have hmv := rLen_move R3 (t := 2) (t' := 1) (by omega) (by omega) (z := (y.1, false)) HLL.out
         have hle1 := rLen_le (rset R3 2 l) (t := 1) (by omega)
         have hls := rLen_set R3 (t := 2) (by omega) l
         rw [HLL.out, l3.out] at hls
         simp at hls
         have ct := Sc.out.cells.1 1 (by omega)
         have zt := Sc.out.cells.2 1
         have hhead := Lib.hid (head_eq (w := Wc.drew) (.of_row ((Sc.out.drew).rows 1 (by omega))) (by omega) y.1)
         have YT := Lib.hid hyt
         have MV := Lib.hid hmv
         clear hyt hmv hle1 hls
         go_wp2_with fail
         go_region_with (go_at_call 32; refine hhead.out.mono ?_; rintro e w5 ⟨v5, rfl, own5, f5⟩; obtain ⟨g5, cap5, rfl⟩ := row_slice2 own5; have e1 := f5.cell ct (fun h => h); have e2 := (f5.frozen (p := ⟨q, 1, none⟩) (lt_of_block Sc.out.top) (fun h => h)).trans zt)
         · have G5 := Lib.hid (RTo.go F3.out H3.out (round_to (t0 := 2) (t := 1) (by omega) (by omega) HK3.out Fc.out Sc.out HVB.out f5 own5))
           rw [← rsink_eq YT.out] at G5
           have LL : Hid (rLen (rsink R3 2 l y) = n) := Lib.hid (by rw [rsink_eq YT.out, MV.out, l3.out])
           have hnl : ((rsink R3 2 l y) 2).length = l.length := by rw [rsink_eq YT.out]; rfl
           have hR3 : (R3 2).length = l.length + 1 := by rw [HLL.out]; simp
           have KK : Hid (∀ R', RMoved (rsink R3 2 l y) R' → RMoved R R') := Lib.hid fun R' h => k3.out R' (.more HLL.out Y2.out h)
           clear f5 own5 e1 e2 ct zt hhead x1
           go_wp2_with fail
           go_roundg (((rsink R3 2 l y) 2).length + 1)
           case measure => omega
           case rel => exact ⟨rsink R3 2 l y, rfl, G5, LL, KK⟩
         · have G5 := Lib.hid (RTo.go F3.out H3.out (round_to (t0 := 2) (t := 1) (by omega) (by omega) HK3.out Fc.out Sc.out HVB.out f5 own5))
           rw [← rsink_eq YT.out] at G5
           have LL : Hid (rLen (rsink R3 2 l y) = n) := Lib.hid (by rw [rsink_eq YT.out, MV.out, l3.out])
           have hnl : ((rsink R3 2 l y) 2).length = l.length := by rw [rsink_eq YT.out]; rfl
           have hR3 : (R3 2).length = l.length + 1 := by rw [HLL.out]; simp
           have KK : Hid (∀ R', RMoved (rsink R3 2 l y) R' → RMoved R R') := Lib.hid fun R' h => k3.out R' (.more HLL.out Y2.out h)
           clear f5 own5 e1 e2 ct zt hhead x1
           go_wp2_with fail
           go_roundg (((rsink R3 2 l y) 2).length + 1)
           case measure => omega
           case rel => exact ⟨rsink R3 2 l y, rfl, G5, LL, KK⟩
       | false =>
         rw [hy2] at d2
         have D := Lib.hid (k3.out R3 (.done fun l' y' h => by
           rw [HLL.out] at h
           obtain ⟨_, h2⟩ := List.append_inj' h rfl
           have : y = y' := by simpa using h2
           rw [← this]
           exact hy2))
         clear hy2
         go_wp2_with fail
         go_quiet (fail)
         have Sd := Lib.hid (S3.out.keep (T := Nob) ((Fr.refl Nob wr).drewN nq) fun _ _ h => h)
         have Gd : Hid (RTo w q K (wr.drewN nq) R3) := Lib.hid (RTo.go F3.out H3.out ⟨K3, ⟨V3, Sd.out, HK3.out⟩, ((Fr.refl Nob wr).drewN nq).nob, fun _ h => .inl h⟩)
         generalize wr.drewN nq = Wd at *
         go_wp2_with fail
         go_meet
         exact ⟨R3, Gd, l3, D⟩
     · have hz : (R3 2).length = 0 := by omega
       rw [hz] at c0
       have D := Lib.hid (k3.out R3 (.done fun l' y' h => by
         rw [h] at hz
         simp at hz))
       clear hv hle hz hq
       go_wp2_with fail
       go_quiet (fail)
       have Sd := Lib.hid (S3.out.keep (T := Nob) ((Fr.refl Nob wr).drewN nq) fun _ _ h => h)
       have Gd : Hid (RTo w q K (wr.drewN nq) R3) := Lib.hid (RTo.go F3.out H3.out ⟨K3, ⟨V3, Sd.out, HK3.out⟩, ((Fr.refl Nob wr).drewN nq).nob, fun _ h => .inl h⟩)
       generalize wr.drewN nq = Wd at *
       go_wp2_with fail
       go_meet
       exact ⟨R3, Gd, l3, D⟩
  case rest =>
    obtain ⟨R3, Gd, l3, D⟩ := hcut
    generalize wc = Wd at *
    go_wp2_with fail
    go_region
    have hb : ∀ k, k < 3 → (Wd.alloc (.cells #[.pointer (some ⟨q, 2, none⟩), .pointer (some ⟨q, 1, none⟩), .pointer (some ⟨q, 0, none⟩)] 62)).drew.cell? ⟨Wd.heap.size, k, none⟩ = some (.pointer (some ⟨q, 2 - k, none⟩)) := fun k hk => by
      have h := fun j => cell_of_row _ Wd.heap.size j _ _ (0, 0) (heap_alloc_new Wd (.cells #[.pointer (some ⟨q, 2, none⟩), .pointer (some ⟨q, 1, none⟩), .pointer (some ⟨q, 0, none⟩)] 62))
      match k with
      | 0 => exact h 0
      | 1 => exact h 1
      | 2 => exact h 2
      | k + 3 => omega
    have fe : Fr Nob Wd (Wd.alloc (.cells #[.pointer (some ⟨q, 2, none⟩), .pointer (some ⟨q, 1, none⟩), .pointer (some ⟨q, 0, none⟩)] 62)).drew := ((Fr.refl Nob Wd).alloc _).drew
    have HB := Lib.hid hb
    have G5 : Hid (RTo w q K (Wd.alloc (.cells #[.pointer (some ⟨q, 2, none⟩), .pointer (some ⟨q, 1, none⟩), .pointer (some ⟨q, 0, none⟩)] 62)).drew R3) := Lib.hid (Gd.out.plus fe)
    obtain ⟨B, hBB⟩ : ∃ B, B = Wd.heap.size := ⟨_, rfl⟩
    rw [← hBB] at HB ⊢
    clear hb fe hBB
    generalize (Wd.alloc (.cells #[.pointer (some ⟨q, 2, none⟩), .pointer (some ⟨q, 1, none⟩), .pointer (some ⟨q, 0, none⟩)] 62)).drew = We at *
    have G5o := G5.out
    obtain ⟨K5, ⟨V5, s5, hK5⟩, f5, h5⟩ := G5o
    have S5 := Lib.hid s5
    have HK5 := Lib.hid hK5
    have F5 := Lib.hid f5
    have H5 := Lib.hid h5
    have L3 := l3.out
    clear s5 hK5 f5 h5 Gd
    go_wp2_with fail
    go_loop [6] (fun m => ∃ k : Nat, k ≤ 3 ∧ m = .int .i64 k ∧ Hid (∀ j, j < k → R3 (2 - j) = [])) (fun m => 3 - (Lib.intOf m).toNat)
    case atStart => exact ⟨0, by omega, rfl, Lib.hid fun j h => absurd h (by omega)⟩
    case round =>
      obtain ⟨k, hk, rfl, em⟩ := hrel
      by_cases hk3 : k = 3
      · subst hk3
        go_wp2_with fail
        go_ret2
        have z0 : (R3 2).length = 0 := by rw [show (2 : Nat) = 2 - 0 from rfl, em.out 0 (by omega)]; rfl
        have z1 : (R3 1).length = 0 := by rw [show (1 : Nat) = 2 - 1 from rfl, em.out 1 (by omega)]; rfl
        have z2 : (R3 0).length = 0 := by rw [show (0 : Nat) = 2 - 2 from rfl, em.out 2 (by omega)]; rfl
        exact ⟨0, .inl ⟨rfl, R3, G5.out, R3, D.out, .inr ⟨rfl, rfl, by unfold rLen; omega, rfl⟩⟩⟩
      · have hk' : k < 3 := by omega
        have hki : (k : Int) < 3 := by omega
        have hp := HB.out k hk'
        obtain ⟨t, ht⟩ : ∃ t, t = 2 - k := ⟨_, rfl⟩
        rw [← ht] at hp
        have ht3 : t < 3 := by omega
        have HT := Lib.hid ht
        have ct := S5.out.cells.1 t ht3
        have zt := S5.out.cells.2 t
        obtain ⟨a, cap, hv⟩ := row_shape (S5.out.rows t ht3)
        rw [hv] at ct
        have hle := rLen_le R3 (t := t) ht3
        rw [L3] at hle
        have HV := Lib.hid hv
        clear ht hv
        by_cases hz : (R3 t).length = 0
        · rw [hz] at ct
          have HZ : Hid (R3 t = []) := Lib.hid (List.length_eq_zero_iff.1 hz)
          clear hz
          go_wp2_with fail
          go_round
          case rel =>
            refine ⟨k + 1, by omega, by go_num, Lib.hid fun j hj => ?_⟩
            by_cases e : j = k
            · rw [e, ← HT.out]
              exact HZ.out
            · exact em.out j (by omega)
          case measure => simp [Lib.intOf]; omega
        · obtain ⟨l, y, hl⟩ := lastN (l := R3 t) (by omega)
          have hlen : (R3 t).length = l.length + 1 := by rw [hl]; simp
          have hrow := S5.out.rows t ht3
          rw [HV.out, hlen, hl] at hrow
          obtain ⟨g, rfl⟩ : ∃ g, a = some ⟨g, 0, none⟩ := by
            rcases hrow.2 with ⟨_, h⟩ | ⟨g, cap', _, h, _⟩
            · omega
            · simp only [Value.slice.injEq] at h
              exact ⟨g, h.1⟩
          rw [hlen] at ct hle
          have hcap : l.length + 1 ≤ cap := by
            rcases hrow.2 with ⟨_, h⟩ | ⟨g', cap', _, h, _, _, h2, _⟩
            · omega
            · simp only [Value.slice.injEq] at h
              obtain ⟨_, _, rfl⟩ := h
              exact h2
          have hwl : IntKind.i64.wrap (l.length : Int) = (l.length : Int) := by rw [IntKind.wrap_i64]; omega
          have hlt : (l.length : Int) < (l.length : Int) + 1 := by omega
          have hgq : g ≠ q := S5.out.sep t g ht3 (by rw [HV.out]; rfl)
          obtain ⟨d1, d2⟩ : We.cell? ⟨g, l.length * 2, none⟩ = some (.int .i64 y.1) ∧ We.cell? ⟨g, l.length * 2 + 1, none⟩ = some (.bool y.2) := by
            have hrl : (l ++ [y]).length = l.length + 1 := by simp
            have hr2 : We.ownsRow 0 59 2 (.slice (some ⟨g, 0, none⟩) (l.length + 1) cap) (l ++ [y]).length (nodesV (l ++ [y])) := by rw [hrl]; exact hrow
            obtain ⟨a', cap', he, hh⟩ := RdNodes.of_row hr2
            obtain ⟨g', hg', e1, e2⟩ := hh l.length (by omega)
            simp only [Value.slice.injEq] at he
            rw [← he.1] at hg'
            have hgg : g = g' := by simpa using hg'
            subst hgg
            have hy : (l ++ [y]).getD l.length (0, false) = y := by simp
            rw [hy] at e1 e2
            exact ⟨e1, e2⟩
          have ROW := Lib.hid hrow
          have HLL := Lib.hid hl
          have hpos : 0 < (l.length : Int) + 1 := by omega
          have hll : l.length ≤ cap := by omega
          have D1 := Lib.hid d1
          clear hrow hl hlen hz d2 d1
          go_wp2_with fail
          go_region
          have hvb : (Value.slice (some ⟨g, 0, none⟩) l.length cap).ownBlock = (V5 t).ownBlock := by rw [HV.out]; rfl
          have hcut := row_cut2 ROW.out
          have sc := (S5.out.turn (t := t) ht3 (l := l) (Fr.refl Nob We) hcut (fun g' hg => .inl (hvb ▸ hg)))
          have G6 := Lib.hid (RTo.go F5.out H5.out ((sc.to HK5.out (t := t) ht3 (((Fr.refl Nob We).nob).setCell ⟨q, t, none⟩ (fun _ => (HK5.out q).2 (.inl rfl)) (.slice (some ⟨g, 0, none⟩) l.length cap)) (fun g' hg => .inl (hvb ▸ hg))).plus (Fr.refl Nob _).drew))
          have d1 : (We.setCell ⟨q, t, none⟩ (.slice (some ⟨g, 0, none⟩) l.length cap)).drew.cell? ⟨g, l.length * 2, none⟩ = some (.int .i64 y.1) := by
            show (We.setCell ⟨q, t, none⟩ (.slice (some ⟨g, 0, none⟩) l.length cap)).cell? ⟨g, l.length * 2, none⟩ = _
            rw [World.cell?_setCell_far _ _ _ _ (fun e => hgq (Eq.symm e))]
            exact D1.out
          generalize (We.setCell ⟨q, t, none⟩ (.slice (some ⟨g, 0, none⟩) l.length cap)).drew = Wf at *
          clear hvb hcut sc ct zt hp
          go_wp2_with fail
          go_ret2
          refine ⟨y.1, true, rset R3 t l, ?_, G6.out, R3, D.out, .inl ⟨rfl, k, l, y, hk', em.out, ?_, rfl, ?_⟩⟩
          · rfl
          · rw [← HT.out]
            exact HLL.out
          · rw [← HT.out]

end Go.Proofs.Ythcalhmiielfkaa
