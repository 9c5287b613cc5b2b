/-
  Law 5: SuperTorn, walked. (Printed by gen/torn5.py.)
-/
import Derived.Test.YtpdljgjofebgpaaSupK
namespace Go.Proofs.Ytpdljgjofebgpaa
open Go.RowKit Go.ChangeShapes Go.WideShapes Go.Deep

set_option maxRecDepth 100000 in
set_option maxHeartbeats 8000000 in
theorem superTorn_main (A : Option Addr) (n cap : Nat) (z : Nat → Blk) (page : Nat) (PA : Option Addr) (pn pc : Nat) (pl : List UInt8) (w : World) (hz : BlkRow w A n z) (hpi : InB w PA pn pc pl) (h2 : 2 ≤ n) (h10 : n ≤ 10) (hp : page < 2) (hn : pn ≤ 384) :
    Calls Try.prog 6 #[.slice A n cap, .int .i64 page, .slice PA pn pc] w fun e w' => e = .returned (.bool true) ∧ Fr Nob w w' := by
  have Z := Lib.hid hz
  have PI := Lib.hid hpi
  have PP := Lib.hid hp
  have e1 : ¬ (n : Int) < 2 := by omega
  have e2 : ¬ (10 : Int) < (n : Int) := by omega
  have e3 : ¬ (384 : Int) < (pn : Int) := by omega
  clear hz hpi hp
  go_enter Try.func6, Try.ntmps6
  go_wp2_with fail
  refine (awake5_eq w).mono ?_
  rintro e w0 ⟨rfl, f0⟩
  have F0 := Lib.hid f0
  clear f0
  go_upto_region 3 with fail
  go_cut [40] (fun t W => t = .bool false ∧ W = w0)
  case first =>
    have hpc := PP.out
    rcases (by omega : page = 0 ∨ page = 1) with rfl | rfl
    all_goals
      go_wp2_with fail
      go_meet
      exact ⟨by simp; omega, rfl⟩
  case rest =>
    obtain ⟨rfl, rfl⟩ := hcut
    generalize wc = w0 at *
    obtain ⟨o, ho⟩ : ∃ o, o = dec (pl ++ List.replicate 384 0) := ⟨_, rfl⟩
    obtain ⟨E, hE⟩ : ∃ E, E = decE o := ⟨_, rfl⟩
    have HO := Lib.hid ho
    have HE := Lib.hid hE
    clear ho hE
    go_upto_region 5 with fail
    go_cut [8] (fun s W => s = .int .i64 E ∧ Hid (Fr Nob w0 W))
    case first =>
      have own0 : (w0.alloc (.cells #[] 5)).ownsRow w0.heap.size 5 1 (.slice (some ⟨w0.heap.size, 0, none⟩) 0 0) 0 [] := ⟨rfl, .inr ⟨w0.heap.size, 0, #[], rfl, Nat.le_refl _, heap_alloc_new w0 _, Nat.le_refl _, by unfold maxLen; omega, rfl, rfl⟩⟩
      have fa : Fr Nob w0 (w0.alloc (.cells #[] 5)) := (Fr.refl Nob w0).alloc _
      have O0 := Lib.hid own0
      have FA := Lib.hid fa
      have PR := Lib.hid (PI.out.rd.nob (F0.out.trans' fa))
      have LN := Lib.hid PI.out.len
      obtain ⟨d0, d1, d2, d3, d4, dl, dm, hd⟩ := blk_cases (decB o)
      have DEC : Hid (∀ v w', RdC w' v (pl ++ List.replicate 384 0) → Calls Try.prog 27 #[v] w' fun e w'' => e = .returned (.tuple #[.agg #[.int .u64 (d0 : Int), .int .u64 (d1 : Int), .int .u64 (d2 : Int), .int .u64 (d3 : Int), .int .u64 (d4 : Int), .bool dl, .int .i64 dm], .int .i64 E]) ∧ Fr Nob w' w'') := Lib.hid fun v w' h => by
        have k := decode_eq h o HO.out.symm
        rw [hd, blkV_mk, ← HE.out] at k
        exact k
      clear hd
      by_cases h0 : 0 < pl.length
      · obtain ⟨a', c', he, hc⟩ := PR.out
        have he' := he
        simp only [Value.slice.injEq] at he'
        obtain ⟨rfl, hl, rfl⟩ := he'
        obtain ⟨ad, had, hnews⟩ := RdB.news (a := PA) (cap := pc) (bs := pl) (by rw [← hl]; exact PR.out) h0
        subst had
        have NEWS := Lib.hid hnews
        have ONE := Lib.hid (bytesV_one pl)
        have LV := Lib.hid (bytesV_len pl)
        clear own0 fa hc he hl hnews
        go_wp2_with (with_reducible refine wpList_app (o := ⟨some 44, _, _, _, _, _⟩) rfl (.tmp 42) (.tmp 43) 34 rfl 5 #[.int .u8 0] 1 1 Try.underlying34 u8_info' rfl (by omega) w0.heap.size (.slice (some ⟨w0.heap.size, 0, none⟩) 0 0) 0 [] rfl O0.out ad pn pc (bytesV pl) rfl (by rw [LV.out, LN.out, Nat.mul_one]) NEWS.out ONE.out (by omega) (by omega) (by simp) ?_)
        intro v' w2 o2 f2 _
        have o2' := o2.out
        obtain ⟨g, c, rfl⟩ := row_some o2' (by rw [← LN.out]; exact h0)
        have hgl := o2'.lt g rfl
        have F2 : Hid (Fr Nob w0 w2) := Lib.hid (FA.out.trans f2.out fun i hi (e : (Value.slice (some ⟨w0.heap.size, 0, none⟩) 0 0).ownBlock = some i) => by
          have : w0.heap.size = i := by simpa [Value.ownBlock] using e
          omega)
        have O2 := Lib.hid o2'
        have hsz := F2.out.size
        clear o2 o2' f2
        go_wp2_with (with_reducible refine wpList_app_zeros (o := ⟨some 45, _, _, _, _, _⟩) rfl (.tmp 44) (.const (.int .i64 384)) rfl w0.heap.size g pn c pl rfl O2.out 384 rfl (by omega) (by omega) hsz ?_)
        intro v3 w3 o3 f3
        have DC := Lib.hid (DEC.out v3 w3 (RdC.of_row o3.out (by rw [List.length_append, List.length_replicate, LN.out])))
        have F3 : Hid (Fr Nob w0 w3) := Lib.hid (F2.out.trans f3.out fun i hi (e : i = g) => by omega)
        clear o3 f3
        go_wp2_with fail
        refine DC.out.mono ?_
        rintro e w4 ⟨rfl, f4⟩
        have F4 := Lib.hid ((F3.out.trans' f4).alloc (.cells #[.int .u64 (d0 : Int), .int .u64 (d1 : Int), .int .u64 (d2 : Int), .int .u64 (d3 : Int), .int .u64 (d4 : Int), .bool dl, .int .i64 dm] 29))
        clear f4 DC
        go_wp2_with fail
        go_meet
        exact ⟨rfl, F4⟩
      · have hl : pl = [] := List.length_eq_zero_iff.1 (by omega)
        have hpn : pn = 0 := by rw [← LN.out, hl]; rfl
        subst hl
        subst hpn
        have O9 : Hid ((w0.alloc (.cells #[] 5)).ownsRow w0.heap.size 5 1 (.slice (some ⟨w0.heap.size, 0, none⟩) 0 0) 0 (bytesV [])) := Lib.hid O0.out
        clear own0 fa h0
        go_wp2_with (first | (with_reducible refine wpList_app_none' (o := ⟨some 44, _, _, _, _, _⟩) rfl (.tmp 42) (.tmp 43) 34 rfl 5 #[.int .u8 0] 1 1 Try.underlying34 u8_info' (some ⟨w0.heap.size, 0, none⟩) 0 0 (Nat.le_refl _) rfl PA pc rfl ?_) | (with_reducible refine wpList_app_zeros (o := ⟨some 45, _, _, _, _, _⟩) rfl (.tmp 44) (.const (.int .i64 384)) rfl w0.heap.size w0.heap.size 0 0 [] rfl O9.out 384 rfl (by omega) (by omega) FA.out.size ?_))
        intro v3 w3 o3 f3
        have DC := Lib.hid (DEC.out v3 w3 (RdC.of_row o3.out (by rw [List.length_append, List.length_replicate]; rfl)))
        have F3 : Hid (Fr Nob w0 w3) := Lib.hid (FA.out.trans f3.out fun i hi (e : i = w0.heap.size) => by omega)
        clear o3 f3
        go_wp2_with fail
        refine DC.out.mono ?_
        rintro e w4 ⟨rfl, f4⟩
        have F4 := Lib.hid ((F3.out.trans' f4).alloc (.cells #[.int .u64 (d0 : Int), .int .u64 (d1 : Int), .int .u64 (d2 : Int), .int .u64 (d3 : Int), .int .u64 (d4 : Int), .bool dl, .int .i64 dm] 29))
        clear f4 DC
        go_wp2_with fail
        go_meet
        exact ⟨rfl, F4⟩
    case rest =>
      obtain ⟨rfl, fc⟩ := hcut
      have F1 := Lib.hid (F0.out.trans' fc.out)
      generalize wc = w1 at *
      clear fc
      cases o with
      | some bk =>
        have hE : E = 0 := HE.out
        subst hE
        go_wp2_with fail
        go_ret
        exact ⟨rfl, F1.out⟩
      | none =>
        have hE : E = 3 := HE.out
        subst hE
        have NW := Lib.hid (DL.new F1.out (n := 2) (by omega) (by omega))
        go_wp2_with fail
        refine NW.out.mono ?_
        rintro e w2 ⟨q, K, rfl, d2, _, _⟩
        have D2 : Hid (DL w w2 q K (fun k => (Value.slice none 0 0).ownBlock = some k) (Dv.new 2)) := Lib.hid (d2.more (Fr.refl Nob w2) fun k h => by cases h)
        have T2 := Lib.hid TornS.new
        have U2 : Hid (w2.ownsRow w.heap.size 29 7 (.slice none 0 0) 0 (blksV [])) := Lib.hid (World.ownsRow_nil w2 w.heap.size _ 7)
        have K2 : Hid (∀ j, (Value.slice none 0 0).ownBlock = some j → ¬ K j) := Lib.hid fun j h => by cases h
        clear d2 NW
        go_wp2_with fail
        go_loopw [11, 12] (fun u i wr => ∃ (k : Nat) (D : Dv) (L : List Blk), k ≤ n ∧ i = .int .i64 k ∧ Hid (L.length = k) ∧ Hid (TornS D L) ∧ Hid (wr.ownsRow w.heap.size 29 7 u k (blksV L)) ∧ Hid (∀ j, u.ownBlock = some j → ¬ K j) ∧ Hid (DL w wr q K (fun j => u.ownBlock = some j) D)) (fun _ i _ => n - (intOf i).toNat)
        case atStart => exact ⟨0, _, [], Nat.zero_le _, rfl, Lib.hid rfl, T2, U2, K2, D2⟩
        case round =>
          clear T2 U2 K2 D2
          obtain ⟨k, D, L, hk, rfl, LL, TT, UU, UK, DD⟩ := hrel
          by_cases hlt : k < n
          · have hkn : (k : Int) < n := by omega
            obtain ⟨b, o', hA⟩ := Z.out.addr (by omega)
            have ZZ := Lib.hid (Z.out.keep DD.out.fr)
            obtain ⟨zk, hzk⟩ : ∃ zk, z k = zk := ⟨_, rfl⟩
            have hzo : zk.ok := by rw [← hzk]; exact Z.out.ok k hlt
            obtain ⟨x0, x1, x2, x3, x4, xl, xm, rfl⟩ := blk_cases zk
            have key : ∀ j, j < 7 → wr.cell? ⟨b, o' + k * 7 + j, none⟩ = (blkV ⟨x0, x1, x2, x3, x4, xl, xm⟩).toList[j]? := by rw [← hzk]; exact fun j hj => ZZ.out.cell hA hlt j hj
            have c0 : wr.cell? ⟨b, o' + k * 7, none⟩ = some (.int .u64 (x0 : Int)) := key 0 (by omega)
            have c1 : wr.cell? ⟨b, o' + k * 7 + 1, none⟩ = some (.int .u64 (x1 : Int)) := key 1 (by omega)
            have c2 : wr.cell? ⟨b, o' + k * 7 + 2, none⟩ = some (.int .u64 (x2 : Int)) := key 2 (by omega)
            have c3 : wr.cell? ⟨b, o' + k * 7 + 3, none⟩ = some (.int .u64 (x3 : Int)) := key 3 (by omega)
            have c4 : wr.cell? ⟨b, o' + k * 7 + 4, none⟩ = some (.int .u64 (x4 : Int)) := key 4 (by omega)
            have c5 : wr.cell? ⟨b, o' + k * 7 + 5, none⟩ = some (.bool xl) := key 5 (by omega)
            have c6 : wr.cell? ⟨b, o' + k * 7 + 6, none⟩ = some (.int .i64 xm) := key 6 (by omega)
            have hs1 : seqOf D + 1 < 18446744073709551616 := by rw [TT.out.seq, LL.out]; omega
            obtain ⟨y0, y1, y2, y3, y4, yl, ym, hy⟩ := blk_cases (bumped D ⟨x0, x1, x2, x3, x4, xl, xm⟩).norm
            have ST : Hid (Calls Try.prog 26 #[.pointer (some ⟨q, 0, none⟩), .agg #[.int .u64 (x0 : Int), .int .u64 (x1 : Int), .int .u64 (x2 : Int), .int .u64 (x3 : Int), .int .u64 (x4 : Int), .bool xl, .int .i64 xm]] wr fun e w' => e = .returned (.tuple #[.agg #[.int .u64 (y0 : Int), .int .u64 (y1 : Int), .int .u64 (y2 : Int), .int .u64 (y3 : Int), .int .u64 (y4 : Int), .bool yl, .int .i64 ym], .int .i64 0]) ∧ DL w w' q K (fun j => u11.ownBlock = some j) (stF D ⟨x0, x1, x2, x3, x4, xl, xm⟩) ∧ Fr K wr w') := Lib.hid (by
              have h := store_eq DD.out (by rw [TT.out.calm.1]; omega) (by rw [TT.out.calm.1]; omega) TT.out.calm.2.1 ⟨x0, x1, x2, x3, x4, xl, xm⟩ hzo (by omega) false false TT.out.calm.bw (TT.out.calm.bf _)
              rw [show stB D ⟨x0, x1, x2, x3, x4, xl, xm⟩ false false = (bumped D ⟨x0, x1, x2, x3, x4, xl, xm⟩).norm from rfl, hy, blkV_mk, blkV_mk] at h
              exact h)
            have TS := Lib.hid (TT.out.step hzo (by rw [LL.out]; omega))
            rw [hy] at TS
            generalize stF D ⟨x0, x1, x2, x3, x4, xl, xm⟩ = D3 at *
            clear hzk hzo key hy hs1 TT DD ZZ
            subst hA
            go_wp2_with fail
            refine ST.out.mono ?_
            rintro e w3 ⟨rfl, d3, f3⟩
            have h13 := heap_alloc_new w3 (.cells #[.int .u64 (y0 : Int), .int .u64 (y1 : Int), .int .u64 (y2 : Int), .int .u64 (y3 : Int), .int .u64 (y4 : Int), .bool yl, .int .i64 ym] 29)
            have fa := (Fr.refl Nob w3).alloc (.cells #[.int .u64 (y0 : Int), .int .u64 (y1 : Int), .int .u64 (y2 : Int), .int .u64 (y3 : Int), .int .u64 (y4 : Int), .bool yl, .int .i64 ym] 29)
            have U4 := Lib.hid (fa.ownsRow (f3.ownsRow UU.out fun j hj => UK.out j hj) fun _ _ h => h)
            have D4 := Lib.hid (d3.nob fa)
            obtain ⟨B13, hB13⟩ : ∃ R, R = w3.heap.size := ⟨_, rfl⟩
            clear d3 f3 fa ST UU
            clear c0 c1 c2 c3 c4 c5 c6
            go_upto_region 14 with fail
            rw [← hB13] at h13 ⊢
            clear hB13
            generalize w3.alloc (.cells #[.int .u64 (y0 : Int), .int .u64 (y1 : Int), .int .u64 (y2 : Int), .int .u64 (y3 : Int), .int .u64 (y4 : Int), .bool yl, .int .i64 ym] 29) = w4 at *
            have c0 := cell_of_row w4 B13 0 _ _ (0, 0) h13
            have c1 := cell_of_row w4 B13 1 _ _ (0, 0) h13
            have c2 := cell_of_row w4 B13 2 _ _ (0, 0) h13
            have c3 := cell_of_row w4 B13 3 _ _ (0, 0) h13
            have c4 := cell_of_row w4 B13 4 _ _ (0, 0) h13
            have c5 := cell_of_row w4 B13 5 _ _ (0, 0) h13
            have c6 := cell_of_row w4 B13 6 _ _ (0, 0) h13
            have h74 := heap_alloc_new w4 (.cells #[.int .u64 (y0 : Int), .int .u64 (y1 : Int), .int .u64 (y2 : Int), .int .u64 (y3 : Int), .int .u64 (y4 : Int), .bool yl, .int .i64 ym] 29)
            have fb := (Fr.refl Nob w4).alloc (.cells #[.int .u64 (y0 : Int), .int .u64 (y1 : Int), .int .u64 (y2 : Int), .int .u64 (y3 : Int), .int .u64 (y4 : Int), .bool yl, .int .i64 ym] 29)
            have U5 := Lib.hid (fb.ownsRow U4.out fun _ _ h => h)
            have D5 := Lib.hid (D4.out.nob fb)
            have NEWS : Hid (∀ (j : Nat) (v : Value), (#[.int .u64 (y0 : Int), .int .u64 (y1 : Int), .int .u64 (y2 : Int), .int .u64 (y3 : Int), .int .u64 (y4 : Int), .bool yl, .int .i64 ym] : Array Value).toList[j]? = some v → (w4.alloc (.cells #[.int .u64 (y0 : Int), .int .u64 (y1 : Int), .int .u64 (y2 : Int), .int .u64 (y3 : Int), .int .u64 (y4 : Int), .bool yl, .int .i64 ym] 29)).cell? ((⟨w4.heap.size, 0, none⟩ : Addr).add j) = some v) := Lib.hid fun j v h => by
              rw [Addr.add_lit, Nat.zero_add, cell_of_row _ w4.heap.size j _ _ (0, 0) h74, ← Array.getElem?_toList]
              exact h
            have ONE : Hid (∀ v ∈ (#[.int .u64 (y0 : Int), .int .u64 (y1 : Int), .int .u64 (y2 : Int), .int .u64 (y3 : Int), .int .u64 (y4 : Int), .bool yl, .int .i64 ym] : Array Value).toList, v.oneCell' = true) := Lib.hid fun v hv => by
              simp at hv
              rcases hv with rfl | rfl | rfl | rfl | rfl | rfl | rfl <;> rfl
            have hbase := D5.out.fr.size
            clear h13 fb h74 U4 D4
            go_wp2_with (with_reducible refine wpList_app (o := ⟨some 75, _, _, _, _, _⟩) rfl (.tmp 72) (.tmp 74) 42 rfl 29 #[.int .u64 0, .int .u64 0, .int .u64 0, .int .u64 0, .int .u64 0, .bool false, .int .i64 0] 7 56 Try.underlying42 blk_info rfl (by omega) w.heap.size u11 k (blksV L) rfl U5.out ⟨w4.heap.size, 0, none⟩ 1 1 (#[.int .u64 (y0 : Int), .int .u64 (y1 : Int), .int .u64 (y2 : Int), .int .u64 (y3 : Int), .int .u64 (y4 : Int), .bool yl, .int .i64 ym] : Array Value).toList rfl rfl NEWS.out ONE.out (by omega) (by omega) hbase ?_)
            intro v' w6 o6 f6 hor
            have U6 : Hid (w6.ownsRow w.heap.size 29 7 v' (k + 1) (blksV (L ++ [(⟨y0, y1, y2, y3, y4, yl, ym⟩ : Blk)]))) := Lib.hid (by
              rw [blksV_snoc]
              exact o6.out)
            have hs5 : (w4.alloc (.cells #[.int .u64 (y0 : Int), .int .u64 (y1 : Int), .int .u64 (y2 : Int), .int .u64 (y3 : Int), .int .u64 (y4 : Int), .bool yl, .int .i64 ym] 29)).heap.size = w4.heap.size + 1 := by simp
            have UK6 : Hid (∀ j, v'.ownBlock = some j → ¬ K j) := Lib.hid fun j hj => by
              rcases hor.out with h | h
              · exact UK.out j (by rw [← h]; exact hj)
              · rw [hj] at h
                simp only [Option.some.injEq] at h
                exact D5.out.fresh j (by rw [hs5]; omega)
            have D6 : Hid (DL w w6 q K (fun j => v'.ownBlock = some j) D3) := Lib.hid (D5.out.grow' f6.out (D5.out.fr.trans f6.out fun i hi h => absurd (U5.out.lt i h).1 (by omega)) (fun j h _ => ⟨h, UK.out j h⟩) fun j h => by
              rcases hor.out with e | e
              · left
                rw [← e]
                exact h
              · right
                have := (o6.out.lt j h).2
                rw [h] at e
                simp only [Option.some.injEq] at e
                rw [hs5]
                omega)
            clear o6 f6 hor hs5 U5 D5 NEWS ONE c0 c1 c2 c3 c4 c5 c6 hbase UK
            go_wp2_with fail
            go_roundw
            case rel => exact ⟨k + 1, D3, L ++ [(⟨y0, y1, y2, y3, y4, yl, ym⟩ : Blk)], by omega, by go_num, Lib.hid (by rw [List.length_append, LL.out]; rfl), TS, U6, UK6, D6⟩
            case measure => simp [intOf]; omega
          · have : k = n := by omega
            subst this
            obtain ⟨g, c, rfl⟩ := row_some UU.out (by omega)
            have key : Hid (∀ i j, i < k → j < 7 → wr.cell? ⟨g, i * 7 + j, none⟩ = (blkV (L.getD i Blk.zero)).toList[j]?) := Lib.hid fun i j hi hj => by
              have hb := blksV_at L i j (by rw [LL.out]; exact hi) hj
              obtain ⟨v, hv⟩ : ∃ v, (blkV (L.getD i Blk.zero)).toList[j]? = some v := ⟨_, List.getElem?_eq_getElem (show j < 7 from hj)⟩
              have h := UU.out.cells (g := g) rfl (i * 7 + j) v (by rw [hb, hv])
              rw [Addr.add_lit, Nat.zero_add] at h
              rw [h, hv]
            obtain ⟨l0, l1, l2, l3, l4, ll, lm, hl⟩ := blk_cases (L.getD (k - 1) Blk.zero)
            obtain ⟨r0, r1, r2, r3, r4, rl, rm, hr⟩ := blk_cases (L.getD (k - 2) Blk.zero)
            have hseq := (TT.out.each (k - 1) (by rw [LL.out]; omega) (by rw [LL.out]; omega)).2.1
            rw [hl] at hseq
            have hl0 : l0 = k := by
              have : l0 = k - 1 + 1 := hseq
              omega
            subst hl0
            have keyl : ∀ j, j < 7 → wr.cell? ⟨g, (l0 - 1) * 7 + j, none⟩ = (blkV ⟨l0, l1, l2, l3, l4, ll, lm⟩).toList[j]? := fun j hj => by rw [← hl]; exact key.out (l0 - 1) j (by omega) hj
            have d0 : wr.cell? ⟨g, (l0 - 1) * 7, none⟩ = some (.int .u64 (l0 : Int)) := keyl 0 (by omega)
            have d1 : wr.cell? ⟨g, (l0 - 1) * 7 + 1, none⟩ = some (.int .u64 (l1 : Int)) := keyl 1 (by omega)
            have d2 : wr.cell? ⟨g, (l0 - 1) * 7 + 2, none⟩ = some (.int .u64 (l2 : Int)) := keyl 2 (by omega)
            have d3 : wr.cell? ⟨g, (l0 - 1) * 7 + 3, none⟩ = some (.int .u64 (l3 : Int)) := keyl 3 (by omega)
            have d4 : wr.cell? ⟨g, (l0 - 1) * 7 + 4, none⟩ = some (.int .u64 (l4 : Int)) := keyl 4 (by omega)
            have d5 : wr.cell? ⟨g, (l0 - 1) * 7 + 5, none⟩ = some (.bool ll) := keyl 5 (by omega)
            have d6 : wr.cell? ⟨g, (l0 - 1) * 7 + 6, none⟩ = some (.int .i64 lm) := keyl 6 (by omega)
            have HL := Lib.hid hl
            have HR := Lib.hid hr
            have h15 := heap_alloc_new wr (.cells #[.int .u64 (l0 : Int), .int .u64 (l1 : Int), .int .u64 (l2 : Int), .int .u64 (l3 : Int), .int .u64 (l4 : Int), .bool ll, .int .i64 lm] 29)
            have fa := (Fr.refl Nob wr).alloc (.cells #[.int .u64 (l0 : Int), .int .u64 (l1 : Int), .int .u64 (l2 : Int), .int .u64 (l3 : Int), .int .u64 (l4 : Int), .bool ll, .int .i64 lm] 29)
            have hs7 : (wr.alloc (.cells #[.int .u64 (l0 : Int), .int .u64 (l1 : Int), .int .u64 (l2 : Int), .int .u64 (l3 : Int), .int .u64 (l4 : Int), .bool ll, .int .i64 lm] 29)).heap.size = wr.heap.size + 1 := by simp
            obtain ⟨B15, hB15⟩ : ∃ R, R = wr.heap.size := ⟨_, rfl⟩
            have K15 : Hid (¬ K B15) := Lib.hid (DD.out.fresh B15 (by rw [hB15]; exact Nat.le_refl _))
            have W15 : Hid (w.heap.size ≤ B15) := Lib.hid (by rw [hB15]; exact DD.out.fr.size)
            have D7 : Hid (DL w (wr.alloc (.cells #[.int .u64 (l0 : Int), .int .u64 (l1 : Int), .int .u64 (l2 : Int), .int .u64 (l3 : Int), .int .u64 (l4 : Int), .bool ll, .int .i64 lm] 29)) q K (fun j => j = B15) D) := Lib.hid (DD.out.more fa fun j hj => .inr (by rw [hs7]; omega))
            have keyr : Hid (∀ j, j < 7 → (wr.alloc (.cells #[.int .u64 (l0 : Int), .int .u64 (l1 : Int), .int .u64 (l2 : Int), .int .u64 (l3 : Int), .int .u64 (l4 : Int), .bool ll, .int .i64 lm] 29)).cell? ⟨g, (l0 - 2) * 7 + j, none⟩ = (blkV ⟨r0, r1, r2, r3, r4, rl, rm⟩).toList[j]?) := Lib.hid fun j hj => by
              rw [← hr]
              obtain ⟨v, hv⟩ : ∃ v, (blkV (L.getD (l0 - 2) Blk.zero)).toList[j]? = some v := ⟨_, List.getElem?_eq_getElem (show j < 7 from hj)⟩
              rw [hv]
              exact fa.cell (by rw [key.out (l0 - 2) j (by omega) hj]; exact hv) fun h => h
            clear hl hr hseq keyl key fa hs7 UU UK DD
            go_upto_region 18 with fail
            rw [← hB15] at h15 ⊢
            have H15 := Lib.hid h15
            clear h15 hB15 d0 d1 d2 d3 d4 d5 d6
            generalize wr.alloc (.cells #[.int .u64 (l0 : Int), .int .u64 (l1 : Int), .int .u64 (l2 : Int), .int .u64 (l3 : Int), .int .u64 (l4 : Int), .bool ll, .int .i64 lm] 29) = w7 at *
            have c150 := cell_of_row w7 B15 0 _ _ (0, 0) H15.out
            go_upto_if 87 with fail
            obtain ⟨v0, v1, v2, v3, v4, vl, vm, hv⟩ := blk_cases (L.getD (wantI l0 page) Blk.zero)
            have HV := Lib.hid hv
            clear hv
            go_cut [] (fun W => Hid (W.heap[B15]? = some (.cells #[.int .u64 (v0 : Int), .int .u64 (v1 : Int), .int .u64 (v2 : Int), .int .u64 (v3 : Int), .int .u64 (v4 : Int), .bool vl, .int .i64 vm] 29 (0, 0))) ∧ Hid (DL w W q K (fun j => j = B15) D))
            case first =>
              by_cases hpg : l0 % 2 = page
              · have hvr : (#[.int .u64 (r0 : Int), .int .u64 (r1 : Int), .int .u64 (r2 : Int), .int .u64 (r3 : Int), .int .u64 (r4 : Int), .bool rl, .int .i64 rm] : Array Value) = #[.int .u64 (v0 : Int), .int .u64 (v1 : Int), .int .u64 (v2 : Int), .int .u64 (v3 : Int), .int .u64 (v4 : Int), .bool vl, .int .i64 vm] := by
                  have h1 : wantI l0 page = l0 - 2 := by
                    unfold wantI
                    rw [if_pos hpg]
                  rw [← blkV_mk, ← blkV_mk, ← HR.out, ← HV.out, h1]
                have HVR := Lib.hid hvr
                have d0 : w7.cell? ⟨g, (l0 - 2) * 7, none⟩ = some (.int .u64 (r0 : Int)) := keyr.out 0 (by omega)
                have d1 : w7.cell? ⟨g, (l0 - 2) * 7 + 1, none⟩ = some (.int .u64 (r1 : Int)) := keyr.out 1 (by omega)
                have d2 : w7.cell? ⟨g, (l0 - 2) * 7 + 2, none⟩ = some (.int .u64 (r2 : Int)) := keyr.out 2 (by omega)
                have d3 : w7.cell? ⟨g, (l0 - 2) * 7 + 3, none⟩ = some (.int .u64 (r3 : Int)) := keyr.out 3 (by omega)
                have d4 : w7.cell? ⟨g, (l0 - 2) * 7 + 4, none⟩ = some (.int .u64 (r4 : Int)) := keyr.out 4 (by omega)
                have d5 : w7.cell? ⟨g, (l0 - 2) * 7 + 5, none⟩ = some (.bool rl) := keyr.out 5 (by omega)
                have d6 : w7.cell? ⟨g, (l0 - 2) * 7 + 6, none⟩ = some (.int .i64 rm) := keyr.out 6 (by omega)
                have hpi : (l0 : Int) % 2 = (page : Int) := by omega
                have hp1 : ((l0 : Int) % 2 == (page : Int)) = true := beq_iff_eq.2 hpi
                have hp2 : decide ((l0 : Int) % 2 = (page : Int)) = true := decide_eq_true hpi
                have hp3 : decide (l0 % 2 = page) = true := decide_eq_true hpg
                clear hvr hpg hpi
                have c0 := cell_of_row w7 B15 0 _ _ (0, 0) H15.out
                have c1 := cell_of_row w7 B15 1 _ _ (0, 0) H15.out
                have c2 := cell_of_row w7 B15 2 _ _ (0, 0) H15.out
                have c3 := cell_of_row w7 B15 3 _ _ (0, 0) H15.out
                have c4 := cell_of_row w7 B15 4 _ _ (0, 0) H15.out
                have c5 := cell_of_row w7 B15 5 _ _ (0, 0) H15.out
                have c6 := cell_of_row w7 B15 6 _ _ (0, 0) H15.out
                have z0 := frozen_of_row w7 B15 0 _ _ H15.out
                have z1 := frozen_of_row w7 B15 1 _ _ H15.out
                have z2 := frozen_of_row w7 B15 2 _ _ H15.out
                have z3 := frozen_of_row w7 B15 3 _ _ H15.out
                have z4 := frozen_of_row w7 B15 4 _ _ H15.out
                have z5 := frozen_of_row w7 B15 5 _ _ H15.out
                have z6 := frozen_of_row w7 B15 6 _ _ H15.out
                go_wp2_with fail
                go_meet
                have f7 := fr7 (w := w7) (R := B15) (.int .u64 (r0 : Int)) (.int .u64 (r1 : Int)) (.int .u64 (r2 : Int)) (.int .u64 (r3 : Int)) (.int .u64 (r4 : Int)) (.bool rl) (.int .i64 rm)
                refine ⟨Lib.hid (by rw [← HVR.out]; exact set7 H15.out rfl _ _ _ _ _ _ _), Lib.hid (D7.out.keep' f7 (D7.out.fr.trans f7 fun j hj h => ?_) K15.out rfl)⟩
                have h : j = B15 := h
                have := W15.out
                omega
              · have hvl : (#[.int .u64 (l0 : Int), .int .u64 (l1 : Int), .int .u64 (l2 : Int), .int .u64 (l3 : Int), .int .u64 (l4 : Int), .bool ll, .int .i64 lm] : Array Value) = #[.int .u64 (v0 : Int), .int .u64 (v1 : Int), .int .u64 (v2 : Int), .int .u64 (v3 : Int), .int .u64 (v4 : Int), .bool vl, .int .i64 vm] := by
                  have h1 : wantI l0 page = l0 - 1 := by
                    unfold wantI
                    rw [if_neg hpg]
                  rw [← blkV_mk, ← blkV_mk, ← HL.out, ← HV.out, h1]
                have HVL := Lib.hid hvl
                have hpi : ¬ (l0 : Int) % 2 = (page : Int) := by omega
                have hp1 : ((l0 : Int) % 2 == (page : Int)) = false := beq_eq_false_iff_ne.2 hpi
                have hp2 : decide ((l0 : Int) % 2 = (page : Int)) = false := decide_eq_false hpi
                have hp3 : decide (l0 % 2 = page) = false := decide_eq_false hpg
                clear hvl hpg hpi
                go_wp2_with fail
                go_meet
                exact ⟨Lib.hid (by rw [← HVL.out]; exact H15.out), D7⟩
            case rest =>
              obtain ⟨h15, d8⟩ := hcut
              generalize wc = w8 at *
              clear c150 D7 keyr
              have hp := PP.out
              have WR := Lib.hid (d8.out.write (i := page) (by rw [TT.out.calm.1]; exact hp) (PI.out.rd.nob d8.out.fr) (by rw [PI.out.len]; exact hn) false (by rw [TT.out.calm.spend]; exact TT.out.calm.2.1))
              have hld := TT.out.fin (by rw [LL.out]; exact h2) hp (by rw [PI.out.len]; exact hn) HO.out.symm
              rw [LL.out, HV.out] at hld
              have HLD := Lib.hid hld
              have C8 := Lib.hid (TT.out.calm.change page (.whole (pad pl)))
              have EQ : Hid (∀ w', (binOp .eql 29 (.agg #[.int .u64 (v0 : Int), .int .u64 (v1 : Int), .int .u64 (v2 : Int), .int .u64 (v3 : Int), .int .u64 (v4 : Int), .bool vl, .int .i64 vm]) (.agg #[.int .u64 (v0 : Int), .int .u64 (v1 : Int), .int .u64 (v2 : Int), .int .u64 (v3 : Int), .int .u64 (v4 : Int), .bool vl, .int .i64 vm])).run Try.prog w' = .ok (.bool true) w') := Lib.hid fun w' => by
                have h := blk_eql ⟨v0, v1, v2, v3, v4, vl, vm⟩ ⟨v0, v1, v2, v3, v4, vl, vm⟩ w'
                rwa [blkV_mk, decide_eq_true rfl] at h
              generalize D.change page (.whole (pad pl)) = D8 at *
              clear hp hld d8
              go_wp2_with fail
              refine WR.out.mono ?_
              rintro e w9 ⟨rfl, d9, f9⟩
              have G15 := Lib.hid (f9.heap h15.out K15.out)
              have LD := Lib.hid (load_eq d9 (by rw [C8.out.1]; omega) (by rw [C8.out.1]; omega) C8.out.2.1 _ HLD.out)
              rw [show decB (some (⟨v0, v1, v2, v3, v4, vl, vm⟩ : Blk)) = ⟨v0, v1, v2, v3, v4, vl, vm⟩ from rfl, blkV_mk, show loadE (some (⟨v0, v1, v2, v3, v4, vl, vm⟩ : Blk)) = 0 from rfl] at LD
              clear WR f9 d9 h15
              go_wp2_with fail
              refine LD.out.mono ?_
              rintro e w10 ⟨rfl, d10, f10⟩
              have h16 := heap_alloc_new w10 (.cells #[.int .u64 (v0 : Int), .int .u64 (v1 : Int), .int .u64 (v2 : Int), .int .u64 (v3 : Int), .int .u64 (v4 : Int), .bool vl, .int .i64 vm] 29)
              have fb := (Fr.refl Nob w10).alloc (.cells #[.int .u64 (v0 : Int), .int .u64 (v1 : Int), .int .u64 (v2 : Int), .int .u64 (v3 : Int), .int .u64 (v4 : Int), .bool vl, .int .i64 vm] 29)
              have g15 := fb.heap (f10.heap G15.out K15.out) fun h => h
              have FE := Lib.hid (d10.fr.trans' fb)
              obtain ⟨B16, hB16⟩ : ∃ R, R = w10.heap.size := ⟨_, rfl⟩
              go_upto_region 22 with fail
              rw [← hB16] at h16 ⊢
              clear hB16 fb d10 f10 LD
              generalize w10.alloc (.cells #[.int .u64 (v0 : Int), .int .u64 (v1 : Int), .int .u64 (v2 : Int), .int .u64 (v3 : Int), .int .u64 (v4 : Int), .bool vl, .int .i64 vm] 29) = w11 at *
              have c0 := cell_of_row w11 B15 0 _ _ (0, 0) g15
              have c1 := cell_of_row w11 B15 1 _ _ (0, 0) g15
              have c2 := cell_of_row w11 B15 2 _ _ (0, 0) g15
              have c3 := cell_of_row w11 B15 3 _ _ (0, 0) g15
              have c4 := cell_of_row w11 B15 4 _ _ (0, 0) g15
              have c5 := cell_of_row w11 B15 5 _ _ (0, 0) g15
              have c6 := cell_of_row w11 B15 6 _ _ (0, 0) g15
              have z0 := cell_of_row w11 B16 0 _ _ (0, 0) h16
              have z1 := cell_of_row w11 B16 1 _ _ (0, 0) h16
              have z2 := cell_of_row w11 B16 2 _ _ (0, 0) h16
              have z3 := cell_of_row w11 B16 3 _ _ (0, 0) h16
              have z4 := cell_of_row w11 B16 4 _ _ (0, 0) h16
              have z5 := cell_of_row w11 B16 5 _ _ (0, 0) h16
              have z6 := cell_of_row w11 B16 6 _ _ (0, 0) h16
              have eq := EQ.out
              clear g15 h16
              go_wp2_with fail
              go_ret
              exact ⟨rfl, FE.out⟩

set_option maxRecDepth 100000 in
set_option maxHeartbeats 4000000 in
theorem superTorn_walk (A : Option Addr) (n cap : Nat) (z : Nat → Blk) (p : Int) (PA : Option Addr) (pn pc : Nat) (pl : List UInt8) (w : World) (hz : BlkRow w A n z) (_ : (Lit.int .i64 p).wf = true) (hpi : InB w PA pn pc pl) :
    Calls Try.prog 6 #[.slice A n cap, .int .i64 p, .slice PA pn pc] w fun e w' => e = .returned (.bool true) ∧ Fr Nob w w' := by
  by_cases h1 : n < 2
  · have h1' : (n : Int) < 2 := by omega
    clear hz hpi
    go_enter Try.func6, Try.ntmps6
    go_wp2_with fail
    refine (awake5_eq w).mono ?_
    rintro e w0 ⟨rfl, f0⟩
    have F0 := Lib.hid f0
    clear f0
    go_wp2_with fail
    all_goals
      go_ret
      exact ⟨rfl, F0.out⟩
  · by_cases h2 : 10 < n
    · have h2' : (10 : Int) < (n : Int) := by omega
      clear hz hpi
      go_enter Try.func6, Try.ntmps6
      go_wp2_with fail
      refine (awake5_eq w).mono ?_
      rintro e w0 ⟨rfl, f0⟩
      have F0 := Lib.hid f0
      clear f0
      go_wp2_with fail
      all_goals
        go_ret
        exact ⟨rfl, F0.out⟩
    · by_cases h3 : 384 < pn
      · have h3' : (384 : Int) < (pn : Int) := by omega
        clear hz hpi
        go_enter Try.func6, Try.ntmps6
        go_wp2_with fail
        refine (awake5_eq w).mono ?_
        rintro e w0 ⟨rfl, f0⟩
        have F0 := Lib.hid f0
        clear f0
        go_wp2_with fail
        all_goals
          go_ret
          exact ⟨rfl, F0.out⟩
      · by_cases h4 : p = 0 ∨ p = 1
        · obtain ⟨page, rfl⟩ : ∃ k : Nat, p = k := ⟨p.toNat, by omega⟩
          exact superTorn_main A n cap z page PA pn pc pl w hz hpi (by omega) (by omega) (by omega) (by omega)
        · have e1 : ¬ (n : Int) < 2 := by omega
          have e2 : ¬ (10 : Int) < (n : Int) := by omega
          have e3 : ¬ (384 : Int) < (pn : Int) := by omega
          have e4 : ¬ p = 0 := fun e => h4 (.inl e)
          have e5 : ¬ p = 1 := fun e => h4 (.inr e)
          have e6 : decide (p = 0) = false := decide_eq_false e4
          have e7 : decide (p = 1) = false := decide_eq_false e5
          clear hz hpi h4
          go_enter Try.func6, Try.ntmps6
          go_wp2_with fail
          refine (awake5_eq w).mono ?_
          rintro e w0 ⟨rfl, f0⟩
          have F0 := Lib.hid f0
          clear f0
          go_upto_region 3 with fail
          go_cut [40] (fun t W => t = .bool true ∧ W = w0)
          case first =>
            go_wp2_with fail
            go_meet
            exact ⟨by simp; exact .inr ⟨e4, e5⟩, rfl⟩
          case rest =>
            obtain ⟨rfl, rfl⟩ := hcut
            go_wp2_with fail
            go_ret
            exact ⟨rfl, F0.out⟩

end Go.Proofs.Ytpdljgjofebgpaa
