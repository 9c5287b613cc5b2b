/-
  tomb: Marks of a journal that knows one key at the most.
-/
import Derived.Test.YtpdljgjofebgpaaTombK
namespace Go.Proofs.Ytpdljgjofebgpaa
open Go.RowKit Go.Shelf

theorem insU {w : World} {a : Option Addr} {n cap : Nat} (hn : n ≤ 1) :
    Calls Try.prog 121 #[.slice a n cap, .int .i64 0, .int .i64 n] w fun e w' => e = .returned (.tuple #[]) ∧ w = w' := by
  have h1 : ¬ (1 : Int) < (n : Int) := by omega
  go_enter Try.func121, Try.ntmps121
  go_wp2_with fail
  go_loopw [6] (fun i wr => i = .int .i64 1 ∧ w = wr) (fun _ _ => 0)
  case atStart => exact ⟨rfl, rfl⟩
  case round =>
    obtain ⟨rfl, rfl⟩ := hrel
    go_wp2_with fail
    go_end0
    exact ⟨rfl, rfl⟩

theorem pdqU {w : World} {a : Option Addr} {n cap : Nat} (hn : n ≤ 1) (x : Int) :
    Calls Try.prog 109 #[.slice a n cap, .int .i64 0, .int .i64 n, .int .i64 x] w fun e w' => e = .returned (.tuple #[]) ∧ w = w' := by
  have h1 : (n : Int) ≤ 12 := by omega
  go_enter Try.func109, Try.ntmps109
  go_wp2_with fail
  go_loopw [1, 2] (fun i j wr => i = .int .i64 0 ∧ j = .int .i64 n ∧ w = wr) (fun _ _ _ => 0)
  case atStart => exact ⟨rfl, rfl, rfl⟩
  case round =>
    obtain ⟨rfl, rfl, rfl⟩ := hrel
    go_wp2_with (go_at_call 121; refine (insU hn).mono ?_; rintro e w' ⟨rfl, rfl⟩)
    exact bodyPost_ret (results_none rfl _ _ _) rfl ⟨rfl, rfl⟩

theorem lenU {w : World} (n : Nat) (hn : n ≤ 1) : Calls Try.prog 107 #[.int .u64 n] w fun e w' => (∃ x, e = .returned (.int .i64 x)) ∧ w = w' := by
  rcases (by omega : n = 0 ∨ n = 1) with rfl | rfl
  · go_enter Try.func107, Try.ntmps107
    go_wp2_with go_in
    go_ret
    exact ⟨⟨_, rfl⟩, rfl⟩
  · go_enter Try.func107, Try.ntmps107
    go_wp2_with go_in
    go_ret
    exact ⟨⟨_, rfl⟩, rfl⟩

theorem sortU {w : World} {a : Option Addr} {n cap : Nat} (hn : n ≤ 1) :
    Calls Try.prog 102 #[.slice a n cap] w fun e w' => e = .returned (.tuple #[]) ∧ w = w' := by
  go_enter Try.func102, Try.ntmps102
  go_wp2_with (first
    | (go_at_call 107; refine (lenU n hn).mono ?_; rintro e w' ⟨⟨x, rfl⟩, rfl⟩)
    | (go_at_call 109; refine (pdqU hn _).mono ?_; rintro e w' ⟨rfl, rfl⟩))
  go_end0
  exact ⟨rfl, rfl⟩

theorem new_two (w : World) (x y : Value) (t : TypeId) : ∀ j u, [x, y][j]? = some u → (w.alloc (.cells #[x, y] t)).cell? ((⟨w.heap.size, 0, none⟩ : Addr).add j) = some u := by
  intro j u hu
  have hadd : (⟨w.heap.size, 0, none⟩ : Addr).add j = ⟨w.heap.size, j, none⟩ := by unfold Addr.add; split <;> simp_all
  rw [hadd, cell_of_row _ _ j _ _ (0, 0) (heap_alloc_new w _)]
  simpa using hu
theorem row_base {w : World} {b b' size n : Nat} {e : TypeId} {v : Value} {xs : List Value} (hb : b' ≤ b) (h : w.ownsRow b e size v n xs) : w.ownsRow b' e size v n xs := by
  refine ⟨h.1, ?_⟩
  rcases h.2 with h | ⟨g, cap, cur, hv, hg, rest⟩
  · exact .inl h
  · exact .inr ⟨g, cap, cur, hv, Nat.le_trans hb hg, rest⟩
theorem perm_one {l k : List Nat} (h : l.Perm k) (hk : k.length ≤ 1) : l = k := by
  match k, hk with
  | [], _ => exact h.eq_nil
  | [a], _ => exact List.perm_singleton.1 h
  | a :: b :: k, hk => simp at hk

theorem rowU_shape {w : World} {base n : Nat} {t : TypeId} {v : Value} {xs : List Value} (h : w.ownsRow base t 1 v n xs) : ∃ a cap, v = .slice a n cap := by
  rcases h.2 with ⟨rfl, h0⟩ | ⟨g, cap, cur, rfl, _⟩
  · exact ⟨none, 0, by rw [h0]⟩
  · exact ⟨_, cap, rfl⟩

set_option maxHeartbeats 1000000 in
theorem collectU {w : World} {Bm m : Nat} {M : List Mk} (hm : w.cell? ⟨Bm, 0, none⟩ = some (.map (some m))) (hown : MapIs ku ku w m M) (hl : M.length ≤ 1) :
    Calls Try.prog 101 #[.func (.func 103) #[] #[.pointer (some ⟨Bm, 0, none⟩)]] w fun e w' => ∃ v, e = .returned v ∧ w'.ownsRow w.heap.size 27 1 v M.length ((keysM M).map ku) ∧ Fr Nob w w' := by
  have HA := Lib.hid (callsIn_wide.1 (appendU_in Fence.wide 5 trivial trivial rfl (by omega) Bm m M w (World.block_lt_of_cell? w ⟨Bm, 0, none⟩ hm) hm hown (by omega)))
  clear hm hown
  go_enter Try.func101, Try.ntmps101
  go_wp2_with fail
  refine HA.out.mono ?_
  rintro e w' ⟨v, rfl, ⟨ys, hp, own⟩, hB⟩
  have hy := perm_one hp (by unfold keysM; simpa using hl)
  subst hy
  have OWN := Lib.hid own
  have HB := Lib.hid hB
  clear own hB hp HA
  go_wp2_with fail
  go_ret
  refine ⟨_, rfl, ?_, Fr.of_below HB.out⟩
  have := OWN.out
  rwa [show (keysM M).length = M.length by unfold keysM; simp] at this

set_option maxHeartbeats 1000000 in
theorem sortedU {w : World} {Bm m : Nat} {M : List Mk} (hm : w.cell? ⟨Bm, 0, none⟩ = some (.map (some m))) (hown : MapIs ku ku w m M) (hl : M.length ≤ 1) :
    Calls Try.prog 89 #[.func (.func 103) #[] #[.pointer (some ⟨Bm, 0, none⟩)]] w fun e w' => ∃ v, e = .returned v ∧ w'.ownsRow w.heap.size 27 1 v M.length ((keysM M).map ku) ∧ Fr Nob w w' := by
  have HC := Lib.hid (collectU hm hown hl)
  clear hm hown
  go_enter Try.func89, Try.ntmps89
  go_wp2_with fail
  refine HC.out.mono ?_
  rintro e w1 ⟨v, rfl, own, f1⟩
  have OWN := Lib.hid own
  obtain ⟨a, cap, rfl⟩ := rowU_shape own
  have F1 := Lib.hid f1
  clear own f1 HC
  go_wp2_with (go_at_call 102; refine (sortU hl).mono ?_; rintro e w' ⟨rfl, rfl⟩)
  go_ret
  exact ⟨_, rfl, OWN.out, F1.out⟩

theorem rowU_cell {w : World} {base n cap : Nat} {t : TypeId} {a : Option Addr} {xs : List Value} (h : w.ownsRow base t 1 (.slice a n cap) n xs) {i : Nat} (hi : i < n) : ∃ g, a = some ⟨g, 0, none⟩ ∧ w.cell? ⟨g, i, none⟩ = xs[i]? := by
  rcases h.2 with ⟨_, h0⟩ | ⟨g, cap', cur, hv, _, h1, h2, h3, h4, h5⟩
  · omega
  · simp only [Value.slice.injEq] at hv
    refine ⟨g, hv.1, ?_⟩
    rw [cell_of_row w g i _ _ (0, 0) h1, ← h5, List.getElem?_take, if_pos (by omega)]
    simp
theorem getM_at {M : List Mk} (hn : (keysM M).Nodup) {k : Nat} (hk : k < M.length) : getM M (M.getD k (0, 0)).1 = some (M.getD k (0, 0)).2 := by
  rw [List.getD_eq_getElem?_getD, List.getElem?_eq_getElem hk]
  exact getM_of hn (List.getElem_mem hk)

set_option maxHeartbeats 2000000 in
theorem marks_eq {w : World} {q j m : Nat} {J : Jn} (h : JIs w q j m J) (hl : J.M.length ≤ 1) :
    Calls Try.prog 52 #[.pointer (some ⟨j, 0, none⟩)] w fun e w' => ∃ v, e = .returned v ∧ w'.ownsRow w.heap.size 80 2 v J.M.length (mksV J.M) ∧ Fr Nob w w' := by
  have JJ := Lib.hid h
  have c6 := h.cells.2.2.2.2.2.2.1
  have HK := Lib.hid (callsIn_wide.1 (keysU_in Fence.wide 5 trivial rfl m w))
  clear h
  go_enter Try.func52, Try.ntmps52
  go_wp2_with fail
  refine HK.out.mono ?_
  rintro e w1 ⟨rfl, rfl⟩
  have fa : Fr Nob w (w.alloc (.cells #[.map (some m)] 134)) := (Fr.refl Nob w).alloc _
  have SO := Lib.hid (sortedU (cell_of_row _ w.heap.size 0 _ _ (0, 0) (heap_alloc_new w (.cells #[.map (some m)] 134))) (JJ.out.nob fa).map hl)
  have FA := Lib.hid fa
  clear fa HK
  go_wp2_with fail
  refine SO.out.mono ?_
  rintro e w2 ⟨v, rfl, own, f2⟩
  obtain ⟨a, cap, rfl⟩ := rowU_shape own
  have OWN := Lib.hid own
  have F2 := Lib.hid (FA.out.trans' f2)
  clear own f2 FA SO c6
  go_wp2_with fail
  generalize hWo : w2 = Wo at *
  clear hWo w2
  go_loopw [3, 13] (fun u i wr => ∃ k : Nat, k ≤ J.M.length ∧ i = .int .i64 k ∧ Hid (wr.ownsRow Wo.heap.size 80 2 u (J.M.take k).length (mksV (J.M.take k))) ∧ Hid (Fr Nob Wo wr)) (fun _ i _ => J.M.length - (intOf i).toNat)
  case atStart => exact ⟨0, Nat.zero_le _, rfl, Lib.hid (World.ownsRow_nil _ _ _ _), Lib.hid (Fr.refl _ _)⟩
  case round =>
    obtain ⟨k, hk, rfl, own, fr⟩ := hrel
    by_cases hlt : k < J.M.length
    · have hki : (k : Int) < (J.M.length : Int) := by omega
      obtain ⟨g, rfl, hcell⟩ := rowU_cell OWN.out hlt
      have hke : ((keysM J.M).map ku)[k]? = some (ku (J.M.getD k (0, 0)).1) := by
        unfold keysM
        rw [List.map_map, List.getElem?_map, List.getElem?_eq_getElem hlt, List.getD_eq_getElem?_getD, List.getElem?_eq_getElem hlt]
        rfl
      rw [hke] at hcell
      have ck := fr.out.cell hcell fun h => h
      have FW := Lib.hid (F2.out.trans' fr.out)
      have JW := Lib.hid (JJ.out.nob FW.out)
      have c6 := JW.out.cells.2.2.2.2.2.2.1
      have HG := Lib.hid (getM_at JJ.out.map.nodup hlt)
      have HT : Hid (J.M.take (k + 1) = J.M.take k ++ [J.M.getD k (0, 0)]) := Lib.hid (by
        rw [List.take_add_one, List.getElem?_eq_getElem hlt, List.getD_eq_getElem?_getD, List.getElem?_eq_getElem hlt]
        rfl)
      have HL : Hid ((J.M.take k).length = k) := Lib.hid (by rw [List.length_take]; omega)
      generalize J.M.getD k (0, 0) = mk at *
      obtain ⟨mk1, mk2⟩ := mk
      have BS : Hid (Wo.heap.size ≤ wr.heap.size) := Lib.hid fr.out.size
      clear hcell hke
      go_wp2_with (first
        | (at_lookup; (with_reducible refine wpList_lookupM rfl _ _ 134 rfl nat_key (val := ku) Try.underlying134 Try.underlying27 (ku_zero _) JW.out.map rfl mk1 rfl ?_); simp only [HG.out, Option.isSome_some, Option.getD_some])
        | (with_reducible refine wpList_app (o := ⟨some 27, _, _, _, _, _⟩) rfl (.tmp 17) (.tmp 26) 74 rfl 80 #[.int .u64 0, .int .u64 0] 2 16 Try.underlying74 mk_info rfl (by omega) Wo.heap.size u3 (J.M.take k).length (mksV (J.M.take k)) rfl (((Fr.refl Nob wr).alloc _).ownsRow own.out fun _ _ h => h) ⟨wr.heap.size, 0, none⟩ 1 1 [.int .u64 (mk1 : Int), .int .u64 (mk2 : Int)] rfl rfl (new_two wr _ _ _) (by simp [Value.oneCell']) (by rw [HL.out]; omega) (by rw [HL.out]; omega) (by have := BS.out; simp; omega) ?_))
      intro v' w5 o5 f5 h5
      have own5 : Hid (w5.ownsRow Wo.heap.size 80 2 v' (J.M.take (k + 1)).length (mksV (J.M.take (k + 1)))) := Lib.hid (by
        rw [HT.out, mksV_append, List.length_append, HL.out]
        exact o5.out)
      have F5 : Hid (Fr Nob Wo w5) := Lib.hid ((fr.out.alloc (.cells #[ku mk1, ku mk2] 80)).trans f5.out fun i hi (e : u3.ownBlock = some i) => absurd ((own.out.lt i e).1) (by omega))
      clear own fr o5 f5 h5
      go_wp2_with fail
      go_roundw
      case rel => exact ⟨k + 1, by omega, by go_num, own5, F5⟩
      case measure => simp [intOf]; omega
    · have hke : k = J.M.length := by omega
      subst hke
      go_wp2_with fail
      go_ret
      have := own.out
      rw [List.take_length] at this
      exact ⟨_, rfl, row_base F2.out.size this, F2.out.trans' fr.out⟩

end Go.Proofs.Ytpdljgjofebgpaa
