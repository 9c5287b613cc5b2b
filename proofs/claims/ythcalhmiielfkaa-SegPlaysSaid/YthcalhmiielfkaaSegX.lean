/-
  The reference's Seg: Remove.
-/
import Derived.Test.YthcalhmiielfkaaSegSim
namespace Go.Proofs.Ythcalhmiielfkaa
open Go.RowKit

theorem new_two (w : World) (x y : Value) (t : TypeId) : ∀ j u, [x, y][j]? = some u → (w.alloc (.cells #[x, y] t)).cell? ((⟨w.heap.size, 0, none⟩ : Addr).add j) = some u := by
  intro j u hu
  have hadd : (⟨w.heap.size, 0, none⟩ : Addr).add j = ⟨w.heap.size, j, none⟩ := by unfold Addr.add; split <;> simp_all
  rw [hadd, cell_of_row _ _ j _ _ (0, 0) (heap_alloc_new w _)]
  simpa using hu

def cutTo (R : Nat → List Nd) (x : Int) (k : Nat) : Nat → List Nd := fun t => if t < k then cut (R t) x else R t

set_option maxRecDepth 100000 in
set_option maxHeartbeats 1600000 in
theorem rremove_in {w : World} {q : Nat} {K : Nat → Prop} {R : Nat → List Nd} (s : RAt w q K R) (hn : rLen R ≤ 10000) (x : Int) (hx : rHas R x = true) :
    Calls Try.prog 18 #[.pointer (some ⟨q, 0, none⟩), .int .i64 x] w fun e w' => e = .returned (.bool true) ∧ RTo w q K w' (fun t => cut (R t) x) := by
  have s0 := Lib.hid s
  obtain ⟨V, s, hK⟩ := s
  have HK := Lib.hid hK
  go_enter Try.func18, Try.ntmps18
  go_wp2_with fail
  refine (has_eq s0.out (by omega) x).mono ?_
  rintro e w1 ⟨rfl, f1⟩
  rw [hx]
  have S1 := Lib.hid (s.keep f1 fun _ _ h => h)
  have F1 := Lib.hid f1
  clear s hK f1
  go_wp2_with fail
  refine (all_eq w1 q).mono ?_
  rintro e w2 ⟨B, rfl, hB, f2, hlt⟩
  have S2 := Lib.hid (S1.out.keep f2 fun _ _ h => h)
  have F2 := Lib.hid (F1.out.trans' f2)
  have HB := Lib.hid hB
  have hBq : B ≠ q := fun e => by
    have := lt_of_block S1.out.top
    omega
  have st : RTo w q K w2 (cutTo R x 0) := ⟨K, ⟨V, S2.out.congr fun t _ => by unfold cutTo; rw [if_neg (by omega)], HK.out⟩, F2.out.nob, fun _ h => .inl h⟩
  have hBK : ∀ k, K k → k < w1.heap.size := fun k hk => S1.out.lt k ((HK.out k).1 hk)
  have NB : Hid (¬ K B ∧ w.heap.size ≤ B) := Lib.hid ⟨fun h => by have := hBK B h; omega, Nat.le_trans F1.out.size hlt⟩
  have ST := Lib.hid st
  clear hB f2 hlt hBK st S1
  go_wp2_with fail
  go_loopw [6] (fun m wr => ∃ k : Nat, k ≤ 3 ∧ m = .int .i64 k ∧ Hid (RTo w q K wr (cutTo R x k)) ∧ Hid (∀ t, t < 3 → wr.cell? ⟨B, t, none⟩ = some (.pointer (some ⟨q, t, none⟩)))) (fun m _ => 3 - (Lib.intOf m).toNat)
  case atStart => exact ⟨0, by omega, rfl, ST, HB⟩
  case round =>
    clear ST HB S2 F2
    obtain ⟨k, hk, rfl, t3, hb3⟩ := hrel
    by_cases hk3 : k = 3
    · subst hk3
      go_wp2_with fail
      go_ret
      obtain ⟨K', ⟨V', s', hK'⟩, f', h'⟩ := t3.out
      exact ⟨rfl, K', ⟨V', s'.congr fun t ht => by unfold cutTo; rw [if_pos ht], hK'⟩, f', h'⟩
    · have hk' : k < 3 := by omega
      have hki : (k : Int) < 3 := by omega
      obtain ⟨K3, ⟨V3, s3, hK3⟩, f3, h3⟩ := t3.out
      have S3 := Lib.hid s3
      have HK3 := Lib.hid hK3
      have F3 := Lib.hid f3
      have H3 := Lib.hid h3
      have hRk : cutTo R x k k = R k := by unfold cutTo; rw [if_neg (by omega)]
      have hrow := s3.rows k hk'
      rw [hRk] at hrow
      obtain ⟨a, cap, hv, hc⟩ := RdNodes.of_row hrow
      have cq := s3.cells.1 k hk'
      have zq := s3.cells.2 k
      rw [hv] at cq
      have HC := Lib.hid hc
      have hp := hb3.out k hk'
      have hle := rLen_le R hk'
      clear s3 hK3 f3 h3 hrow hc hv
      go_wp2_with fail
      generalize hWo : wr = Wo at *
      clear hWo wr
      go_loopw [7, 9] (fun u i wr => ∃ j : Nat, j ≤ (R k).length ∧ i = .int .i64 j ∧ Hid (wr.ownsRow Wo.heap.size 59 2 u (cut ((R k).take j) x).length (nodesV (cut ((R k).take j) x))) ∧ Hid (Fr Nob Wo wr)) (fun _ i _ => (R k).length - (Lib.intOf i).toNat)
      case atStart => exact ⟨0, Nat.zero_le _, rfl, Lib.hid (World.ownsRow_nil _ _ _ _), Lib.hid (Fr.refl _ _)⟩
      case round =>
        obtain ⟨j, hj, rfl, own, f⟩ := hrel
        by_cases hjn : j < (R k).length
        · obtain ⟨g, rfl, c1, c2⟩ := HC.out j hjn
          have d1 := f.out.cell c1 (fun h => h)
          have d2 := f.out.cell c2 (fun h => h)
          have htk := cut_take (x := x) hjn
          generalize (R k).getD j (0, false) = y at c1 c2 d1 d2 htk
          have TK := Lib.hid htk
          have hcl : (cut ((R k).take j) x).length ≤ j := Nat.le_trans (List.length_filter_le _ _) (by rw [List.length_take]; omega)
          clear c1 c2 htk
          by_cases hyx : y.1 = x
          · have hbe : (y.1 == x) = true := by simpa using hyx
            have TK2 : Hid (cut ((R k).take (j + 1)) x = cut ((R k).take j) x) := Lib.hid (by rw [TK.out, if_neg (by simpa using hyx)]; simp)
            clear TK hyx
            go_wp2_with fail
            go_roundw
            case rel => exact ⟨j + 1, by omega, by go_num, Lib.hid (by rw [TK2.out]; exact own.out), f⟩
            case measure => simp [Lib.intOf]; omega
          · have hbe : (y.1 == x) = false := by simpa using hyx
            have TK2 : Hid (cut ((R k).take (j + 1)) x = cut ((R k).take j) x ++ [y]) := Lib.hid (by rw [TK.out, if_pos hyx])
            clear TK hyx
            go_wp2_with (with_reducible refine wpList_app (o := ⟨some 45, _, _, _, _, _⟩) rfl (.tmp 39) (.tmp 44) 31 rfl 59 #[.int .i64 0, .bool false] 2 16 Try.underlying31 node_info rfl (by omega) Wo.heap.size u7 (cut ((R k).take j) x).length (nodesV (cut ((R k).take j) x)) rfl ((Fr.refl Nob wr).alloc _ |>.ownsRow own.out fun _ _ h => h) ⟨wr.heap.size, 0, none⟩ 1 1 [.int .i64 y.1, .bool y.2] rfl rfl (new_two wr _ _ _) (by simp [Value.oneCell']) (by omega) (by omega) (by have := f.out.size; simp; omega) ?_)
            intro v' w5 o5 f5 h5
            have own5 : Hid (w5.ownsRow Wo.heap.size 59 2 v' (cut ((R k).take (j + 1)) x).length (nodesV (cut ((R k).take (j + 1)) x))) := Lib.hid (by
              rw [TK2.out, nodesV_append, List.length_append]
              exact o5.out)
            have F5 : Hid (Fr Nob Wo w5) := Lib.hid ((f.out.alloc (.cells #[.int .i64 y.1, .bool y.2] 59)).trans f5.out fun i hi (e : u7.ownBlock = some i) => absurd ((own.out.lt i e).1) (by omega))
            clear own f o5 f5 h5 d1 d2
            go_wp2_with fail
            go_roundw
            case rel => exact ⟨j + 1, by omega, by go_num, own5, F5⟩
            case measure => simp [Lib.intOf]; omega
        · have hj2 : j = (R k).length := by omega
          subst hj2
          have hown : wr.ownsRow Wo.heap.size 59 2 u7 (cut (R k) x).length (nodesV (cut (R k) x)) := by
            have := own.out
            rw [List.take_length] at this
            exact this
          obtain ⟨b7, p7, rfl⟩ := row_shape hown
          have OWN := Lib.hid hown
          have e1 := f.out.cell cq (fun h => h)
          have e2 := (f.out.frozen (p := ⟨q, k, none⟩) (lt_of_block S3.out.top) (fun h => h)).trans zq
          have e3 := f.out.cell hp (fun h => h)
          clear own hown
          go_wp2_with fail
          go_roundw
          case rel =>
            have hv : ∀ g', (Value.slice b7 (cut (R k) x).length p7).ownBlock = some g' → (V3 k).ownBlock = some g' ∨ Wo.heap.size ≤ g' := fun g' hg => .inr ((OWN.out.lt g' hg).1)
            have st := (S3.out.turn hk' (l := cut (R k) x) f.out (row_base (Nat.zero_le _) OWN.out) hv).congr (R' := cutTo R x (k + 1)) (fun t ht => by
              unfold rset cutTo
              by_cases e : t = k
              · subst e
                rw [if_pos rfl, if_pos (by omega)]
              · rw [if_neg e]
                by_cases e2 : t < k
                · rw [if_pos e2, if_pos (by omega)]
                · rw [if_neg e2, if_neg (by omega)])
            have g1 := st.to HK3.out hk' ((f.out.nob (S := K3)).setCell ⟨q, k, none⟩ (fun _ => (HK3.out q).2 (.inl rfl)) (.slice b7 (cut (R k) x).length p7)) hv
            refine ⟨k + 1, by omega, by go_num, Lib.hid (RTo.go F3.out H3.out g1), Lib.hid fun t ht => ?_⟩
            exact ((Fr.refl (One q) wr).set1 (o := k) _).cell (f.out.cell (hb3.out t ht) fun h => h) fun h => hBq h
          case measure => simp [Lib.intOf]; omega

end Go.Proofs.Ythcalhmiielfkaa
