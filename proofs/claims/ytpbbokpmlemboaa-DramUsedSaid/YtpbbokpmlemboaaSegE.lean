/-
  seg: what Evict does.
-/
import Derived.Test.YtpbbokpmlemboaaSegC
namespace Go.Proofs.Ytpbbokpmlemboaa
open Go.RowKit

def EvTo (S : Sg) (x : Int) (ok : Bool) (S' : Sg) : Prop := S'.Ok ∧ ∃ S1, Moved S S1 ∧ ((ok = true ∧ Left S1 x S') ∨ (ok = false ∧ x = 0 ∧ S1.tot = 0 ∧ S' = S1))

theorem SegTo.plus {w w' w'' : World} {p : Nat} {K : Nat → Prop} {S : Sg} (g : SegTo w p K w' S) (f : Fr Nob w' w'') : SegTo w p K w'' S := by
  obtain ⟨K', s, f', h⟩ := g
  exact ⟨K', s.keep f fun _ _ h => h, f'.trans f fun _ _ h => h.elim, h⟩

theorem left_of {S : Sg} {k : Nat} (hk : k < 3) (h : ∀ j, j < k → S.get (2 - j) = []) {l : List Int} {x : Int} (hl : S.get (2 - k) = l ++ [x]) : Left S x ((S.set (2 - k) l).gone x) := by
  match k with
  | 0 => exact .cold hl
  | 1 => exact .warm (h 0 (by omega)) hl
  | 2 => exact .hot (h 0 (by omega)) (h 1 (by omega)) hl
  | k + 3 => omega

theorem evict_eq {w : World} {p : Nat} {K : Nat → Prop} {S : Sg} (s : SegAt w p K S) (o : S.Ok) (hn : S.tot ≤ 100000) :
    Calls Try.prog 43 #[.pointer (some ⟨p, 0, none⟩)] w fun e w' => ∃ x ok S', e = .returned (.tuple #[.int .i64 x, .bool ok]) ∧ SegTo w p K w' S' ∧ EvTo S x ok S' := by
  obtain ⟨n, hN⟩ : ∃ n, S.tot = n := ⟨_, rfl⟩
  have HN := Lib.hid hN
  have O := Lib.hid o
  have s0 := Lib.hid (SegTo.refl s)
  obtain ⟨a, cap, d0⟩ := s.read (t := 2) (by omega)
  have hle := S.get_le (t := 2) (by omega)
  have hz := Try.zeroValue4
  rw [hN] at hle hn
  clear hN o s
  go_enter Try.func43, Try.ntmps43
  go_wp2_with fail
  go_loopg [4] ((S.get 2).length + 1) (fun gk m wr => ∃ S1, gk = (S1.get 2).length + 1 ∧ m = .int .i64 (S1.get 2).length ∧ Hid (SegTo w p K wr S1) ∧ Hid S1.Ok ∧ Hid (S1.tot = n) ∧ Hid (∀ S', Moved S1 S' → Moved S S'))
  case atStart => exact ⟨S, rfl, rfl, s0, O, HN, Lib.hid fun _ h => h⟩
  case round =>
    clear d0 hle
    obtain ⟨S1, rfl, rfl, g1, o1, n1, r1⟩ := hrel
    have g1' := g1.out
    obtain ⟨K1, s1, f1, h1⟩ := g1'
    have F1 := Lib.hid f1
    have H1 := Lib.hid h1
    have A1 := Lib.hid s1
    have hle := S1.get_le (t := 2) (by omega)
    rw [n1.out] at hle
    obtain ⟨ru, ri, V, q, hK⟩ := s1
    obtain ⟨c0, c1, c2, c3, c4, ct, fz⟩ := q.cells
    obtain ⟨a, cap, hv⟩ := row_shape (q.rows 2 (by omega))
    rw [hv] at c2
    have Q := Lib.hid q
    clear f1 h1 c0 c1 c4 ct fz hK
    by_cases hc : (S1.get 2).length = 0
    · have D := Lib.hid (r1.out S1 (.done fun l x h => by rw [show S1.c = S1.get 2 from rfl] at h; rw [h] at hc; simp at hc))
      rw [hc] at c2 ⊢
      clear q hv
      go_wp2_with fail
      go_quiet (fail)
      go_wp2_with fail
      obtain ⟨B, hB⟩ : ∃ B, B = wr.heap.size := ⟨_, rfl⟩
      rw [← hB]
      have HBB := Lib.hid hB
      clear hB
      have SS : Hid (SegTo w p K ((wr.drewN nq).alloc (.cells #[.int .i64 2, .int .i64 1, .int .i64 0] 107)) S1) := Lib.hid (g1.out.plus (((Fr.refl Nob wr).drewN nq).alloc _))
      go_loopw [40] (fun m wr => ∃ k : Nat, k ≤ 3 ∧ m = .int .i64 k ∧ Hid (SegTo w p K wr S1) ∧ Hid (∀ j, j < k → S1.get (2 - j) = []) ∧ wr.cell? ⟨B, 0, none⟩ = some (.int .i64 2) ∧ wr.cell? ⟨B, 1, none⟩ = some (.int .i64 1) ∧ wr.cell? ⟨B, 2, none⟩ = some (.int .i64 0)) (fun m _ => 3 - (Lib.intOf m).toNat)
      case atStart =>
        refine ⟨0, by omega, rfl, SS, Lib.hid fun j hj => absurd hj (by omega), ?_, ?_, ?_⟩
        · rw [HBB.out]; exact cell_of_row _ _ 0 _ _ (0, 0) (heap_alloc_new _ (.cells #[.int .i64 2, .int .i64 1, .int .i64 0] 107))
        · rw [HBB.out]; exact cell_of_row _ _ 1 _ _ (0, 0) (heap_alloc_new _ (.cells #[.int .i64 2, .int .i64 1, .int .i64 0] 107))
        · rw [HBB.out]; exact cell_of_row _ _ 2 _ _ (0, 0) (heap_alloc_new _ (.cells #[.int .i64 2, .int .i64 1, .int .i64 0] 107))
      case round =>
        clear SS c2 c3
        obtain ⟨k, hk, rfl, g3, em, b0, b1, b2⟩ := hrel
        have g3' := g3.out
        obtain ⟨K3, s3, f3, h3⟩ := g3'
        have F3 := Lib.hid f3
        have H3 := Lib.hid h3
        have A3 := Lib.hid s3
        by_cases hk3 : k = 3
        · subst hk3
          clear s3 f3 h3
          go_wp2_with fail
          go_ret2
          have z := fun j hj => List.length_eq_zero_iff.2 (em.out j hj)
          have z0 : (S1.get 2).length = 0 := z 0 (by omega)
          have z1 : (S1.get 1).length = 0 := z 1 (by omega)
          have z2 : (S1.get 0).length = 0 := z 2 (by omega)
          have zt : S1.tot = 0 := by rw [Sg.tot_eq]; omega
          exact ⟨0, false, S1, rfl, g3.out, o1.out, S1, D.out, .inr ⟨rfl, rfl, zt, rfl⟩⟩
        · have bk : wr.cell? ⟨B, k, none⟩ = some (.int .i64 ((2 - k : Nat) : Int)) := by
            match k, hk3, hk with
            | 0, _, _ => exact b0
            | 1, _, _ => exact b1
            | 2, _, _ => exact b2
            | k + 3, h, h' => omega
          obtain ⟨a3, cap3, d3⟩ := s3.read (t := 2 - k) (by omega)
          have hle3 := S1.get_le (t := 2 - k) (by omega)
          rw [n1.out] at hle3
          obtain ⟨t, ht⟩ : ∃ t, t = 2 - k := ⟨_, rfl⟩
          rw [← ht] at bk d3 hle3
          have ht3 : t < 3 := by omega
          have HT := Lib.hid ht
          have B0 := Lib.hid b0
          have B1 := Lib.hid b1
          have B2 := Lib.hid b2
          clear s3 f3 h3 b0 b1 b2 ht
          by_cases he : (S1.get t).length = 0
          · rw [he] at d3
            go_wp2_with fail
            go_roundw
            case rel =>
              refine ⟨k + 1, by omega, by go_num, g3, Lib.hid fun j hj => ?_, ?_⟩
              · by_cases e : j = k
                · subst e
                  rw [← HT.out]
                  exact List.length_eq_zero_iff.1 he
                · exact em.out j (by omega)
              · exact ⟨B0.out, B1.out, B2.out⟩
            case measure => simp [Lib.intOf]; omega
          · obtain ⟨l3, x3, hl3⟩ := last_of (l := S1.get t) (by omega)
            have hlen3 : (S1.get t).length = l3.length + 1 := by rw [hl3]; simp
            rw [hlen3] at d3 hle3
            have L3 := Lib.hid hl3
            have hpop3 := Lib.hid (pop_eq A3.out ht3 hl3 (by omega))
            clear hl3 he hlen3
            go_wp2_with (first | (go_at_call 57; refine hpop3.out.mono ?_; rintro e w5 ⟨rfl, s5, f5⟩) | (go_at_call 58; refine (forget_eq s5 x3).mono ?_; rintro e w6 ⟨rfl, g6⟩))
            go_ret2
            have hleft := left_of (S := S1) (k := k) (by omega) (fun j hj => em.out j hj) (by rw [← HT.out]; exact L3.out)
            rw [← HT.out] at hleft
            exact ⟨x3, true, _, rfl, SegTo.go F3.out H3.out (SegTo.go f5 (fun _ h => .inl h) g6), hleft.ok o1.out, S1, D.out, .inl ⟨rfl, hleft⟩⟩
    · obtain ⟨l, x, hl⟩ := last_of (l := S1.get 2) (by omega)
      have hrow := q.rows 2 (by omega)
      rw [hv] at hrow
      have hlen : (S1.get 2).length = l.length + 1 := by rw [hl]; simp
      rw [hl] at hrow
      rw [hlen] at c2
      obtain ⟨g, rfl⟩ : ∃ g, a = some ⟨g, 0, none⟩ := by
        rcases hrow.2 with ⟨h, _⟩ | ⟨g, cap', _, h, _⟩
        · simp only [Value.slice.injEq] at h
          simp at h
        · exact ⟨g, by simp only [Value.slice.injEq] at h; exact h.1⟩
      obtain ⟨cur, e1, e2, e3, e4, e5, e6⟩ := row_cell (by rw [← hl] at hrow; exact hrow)
      have hx : wr.cell? ⟨g, l.length, none⟩ = some (.int .i64 x) := by
        rw [cell_of_row wr g l.length _ _ (0, 0) e1, e6 _ (by omega), hl]
        simp
      have hL := Lib.hid hl
      have hw : IntKind.i64.wrap ((l.length : Int) + 1 - 1) = (l.length : Int) := by rw [IntKind.wrap_i64]; omega
      have hlook : ∀ m, (Instr.lookup 94 (.map (some ru)) (.int .i64 x) false).run Try.prog (wr.drewN m) = .ok (.bool (S1.isUsed x)) (wr.drewN m) := fun m =>
        run_lookupM (int_key .i64) Try.underlying94 Try.underlying3 (z := false) (hz _) ((Q.out.used.keep (S := Nob) ((Fr.refl _ _).drewN m) fun h => h)) x false
      clear hrow hv q e1 e2 e3 e4 e5 e6 hl cur
      rw [hlen]
      rw [hlen] at hle
      cases hu : S1.isUsed x with
      | true =>
        rw [hu] at hlook
        go_wp2_with fail
        go_quiet (fail)
        have A2 := Lib.hid (A1.out.keep (S := S1) (T := Nob) ((Fr.refl _ wr).drewN nq) fun _ _ h => h)
        have F2 := Lib.hid (F1.out.drewN nq)
        have hpop := Lib.hid (pop_eq A2.out (t := 2) (by omega) hL.out (by omega))
        have hb1 : ((S1.set 2 l).get 1).length ≤ 1000000 := by
          rw [S1.get_set (by omega) l 1 (by omega), if_neg (by omega)]
          have := S1.get_le (t := 1) (by omega)
          rw [n1.out] at this
          omega
        have HB := Lib.hid hb1
        clear hb1 A1 F1
        go_wp2_with (first | (go_at_call 57; refine hpop.out.mono ?_; rintro e w1 ⟨rfl, s1, f1⟩) | (go_at_call 48; refine (push_eq s1 (t := 1) (by omega) x HB.out).mono ?_; rintro e w2 ⟨rfl, K2, s3, f3, h3⟩))
        have T2 := Lib.hid (SegTo.go F2.out H1.out (SegTo.go f1 (fun _ h => .inl h) ⟨K2, s3, f3, h3⟩))
        have U := Lib.hid hu
        clear s3 f3 h3 s1 f1 hu
        go_roundg (l.length + 1)
        case measure => omega
        case rel =>
          have hg : (((S1.set 2 l).pushed x 1).get 2).length = l.length := by
            rw [Sg.get_pushed _ x (by omega) 2 (by omega), if_neg (by omega), S1.get_set (by omega) l 2 (by omega), if_pos rfl]
          refine ⟨(S1.set 2 l).pushed x 1, by rw [hg], ?_, T2, Lib.hid (o1.out.move (by omega) (by omega) hL.out), Lib.hid ((Sg.tot_move S1 (t := 2) (by omega) (by omega) hL.out).trans n1.out), Lib.hid fun S' h => r1.out S' (.more hL.out U.out h)⟩
          rw [hg]
      | false =>
        rw [hu] at hlook
        have D := Lib.hid (r1.out S1 (.done fun l' x' h => by
          rw [show S1.c = S1.get 2 from rfl, hL.out] at h
          obtain ⟨h1, h2⟩ := List.append_inj' h rfl
          have : x = x' := by simpa using h2
          rw [← this]
          exact hu))
        go_wp2_with fail
        go_quiet (fail)
        go_wp2_with fail
        obtain ⟨B, hB⟩ : ∃ B, B = wr.heap.size := ⟨_, rfl⟩
        rw [← hB]
        have HBB := Lib.hid hB
        clear hB
        have SS : Hid (SegTo w p K ((wr.drewN nq).alloc (.cells #[.int .i64 2, .int .i64 1, .int .i64 0] 107)) S1) := Lib.hid (g1.out.plus (((Fr.refl Nob wr).drewN nq).alloc _))
        go_loopw [40] (fun m wr => ∃ k : Nat, k ≤ 3 ∧ m = .int .i64 k ∧ Hid (SegTo w p K wr S1) ∧ Hid (∀ j, j < k → S1.get (2 - j) = []) ∧ wr.cell? ⟨B, 0, none⟩ = some (.int .i64 2) ∧ wr.cell? ⟨B, 1, none⟩ = some (.int .i64 1) ∧ wr.cell? ⟨B, 2, none⟩ = some (.int .i64 0)) (fun m _ => 3 - (Lib.intOf m).toNat)
        case atStart =>
          refine ⟨0, by omega, rfl, SS, Lib.hid fun j hj => absurd hj (by omega), ?_, ?_, ?_⟩
          · rw [HBB.out]; exact cell_of_row _ _ 0 _ _ (0, 0) (heap_alloc_new _ (.cells #[.int .i64 2, .int .i64 1, .int .i64 0] 107))
          · rw [HBB.out]; exact cell_of_row _ _ 1 _ _ (0, 0) (heap_alloc_new _ (.cells #[.int .i64 2, .int .i64 1, .int .i64 0] 107))
          · rw [HBB.out]; exact cell_of_row _ _ 2 _ _ (0, 0) (heap_alloc_new _ (.cells #[.int .i64 2, .int .i64 1, .int .i64 0] 107))
        case round =>
          clear SS c2 c3
          obtain ⟨k, hk, rfl, g3, em, b0, b1, b2⟩ := hrel
          have g3' := g3.out
          obtain ⟨K3, s3, f3, h3⟩ := g3'
          have F3 := Lib.hid f3
          have H3 := Lib.hid h3
          have A3 := Lib.hid s3
          by_cases hk3 : k = 3
          · subst hk3
            clear s3 f3 h3
            go_wp2_with fail
            go_ret2
            have z := fun j hj => List.length_eq_zero_iff.2 (em.out j hj)
            have z0 : (S1.get 2).length = 0 := z 0 (by omega)
            have z1 : (S1.get 1).length = 0 := z 1 (by omega)
            have z2 : (S1.get 0).length = 0 := z 2 (by omega)
            have zt : S1.tot = 0 := by rw [Sg.tot_eq]; omega
            exact ⟨0, false, S1, rfl, g3.out, o1.out, S1, D.out, .inr ⟨rfl, rfl, zt, rfl⟩⟩
          · have bk : wr.cell? ⟨B, k, none⟩ = some (.int .i64 ((2 - k : Nat) : Int)) := by
              match k, hk3, hk with
              | 0, _, _ => exact b0
              | 1, _, _ => exact b1
              | 2, _, _ => exact b2
              | k + 3, h, h' => omega
            obtain ⟨a3, cap3, d3⟩ := s3.read (t := 2 - k) (by omega)
            have hle3 := S1.get_le (t := 2 - k) (by omega)
            rw [n1.out] at hle3
            obtain ⟨t, ht⟩ : ∃ t, t = 2 - k := ⟨_, rfl⟩
            rw [← ht] at bk d3 hle3
            have ht3 : t < 3 := by omega
            have HT := Lib.hid ht
            have B0 := Lib.hid b0
            have B1 := Lib.hid b1
            have B2 := Lib.hid b2
            clear s3 f3 h3 b0 b1 b2 ht
            by_cases he : (S1.get t).length = 0
            · rw [he] at d3
              go_wp2_with fail
              go_roundw
              case rel =>
                refine ⟨k + 1, by omega, by go_num, g3, Lib.hid fun j hj => ?_, ?_⟩
                · by_cases e : j = k
                  · subst e
                    rw [← HT.out]
                    exact List.length_eq_zero_iff.1 he
                  · exact em.out j (by omega)
                · exact ⟨B0.out, B1.out, B2.out⟩
              case measure => simp [Lib.intOf]; omega
            · obtain ⟨l3, x3, hl3⟩ := last_of (l := S1.get t) (by omega)
              have hlen3 : (S1.get t).length = l3.length + 1 := by rw [hl3]; simp
              rw [hlen3] at d3 hle3
              have L3 := Lib.hid hl3
              have hpop3 := Lib.hid (pop_eq A3.out ht3 hl3 (by omega))
              clear hl3 he hlen3
              go_wp2_with (first | (go_at_call 57; refine hpop3.out.mono ?_; rintro e w5 ⟨rfl, s5, f5⟩) | (go_at_call 58; refine (forget_eq s5 x3).mono ?_; rintro e w6 ⟨rfl, g6⟩))
              go_ret2
              have hleft := left_of (S := S1) (k := k) (by omega) (fun j hj => em.out j hj) (by rw [← HT.out]; exact L3.out)
              rw [← HT.out] at hleft
              exact ⟨x3, true, _, rfl, SegTo.go F3.out H3.out (SegTo.go f5 (fun _ h => .inl h) g6), hleft.ok o1.out, S1, D.out, .inl ⟨rfl, hleft⟩⟩

end Go.Proofs.Ytpbbokpmlemboaa
