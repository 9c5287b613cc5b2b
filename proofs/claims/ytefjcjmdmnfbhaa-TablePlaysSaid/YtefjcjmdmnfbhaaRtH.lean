/-
  The reference's table beside the plain one: Set of a new key.
-/
import Derived.Test.YtefjcjmdmnfbhaaRtG
namespace Go.Proofs.Ytefjcjmdmnfbhaa
open Go.RowKit

theorem int_info : (Try.prog.info? 3).map (fun i => (i.zero.map Value.cells, i.size, i.bytes)) = some (some #[.int .i64 0], 1, 8) := by kernel_rfl
section
variable {w : World} {W t gn next : Nat} {nw od : List (List ByteArray)} {vo kv vv : Value} {m : List (ByteArray × Int)} {S : KT} {K : List ByteArray} {V : List Int}
theorem RIn2.nob {w' : World} (s : RIn2 w W t gn nw vo od next kv vv K V) (f : Fr Nob w w') : RIn2 w' W t gn nw vo od next kv vv K V :=
  ⟨f.heap s.hd fun h => h, s.nws.keep f (fun h => h) fun _ _ _ _ h => h, s.ods.keep f (fun _ _ _ _ h => h) fun _ _ _ _ h => h, f.ownsRow s.ks fun _ _ h => h, f.ownsRow s.vs fun _ _ h => h, s.lo⟩
theorem intsV_app (a b : List Int) : intsV (a ++ b) = intsV a ++ intsV b := by unfold intsV; rw [List.map_append]
theorem own_rb2 {e : TypeId} {n size : Nat} {v : Value} {xs : List Value} (h : w.ownsRow W e size v n xs) (he : e = 9 ∨ e = 3) : ∀ k, k < w.heap.size → v.ownBlock = some k → RW W w k := fun _ _ e => own_rw h he e

set_option maxHeartbeats 8000000 in
set_option maxRecDepth 100000 in
theorem rtset_new (h : RT w W t S) (ok : S.Ok) (k : ByteArray) (v : Int) (hs : k.size < 9223372036854775808) (hm : S.m.length ≤ 1000000) (hW : W ≤ w.heap.size) (hk : k ∉ keysM S.m) :
    Calls Try.prog 17 #[.pointer (some ⟨t, 0, none⟩), .string k, .int .i64 v] w fun e w' => e = .returned (.bool true) ∧ Hid (RT w' W t (setK S k v)) ∧ Hid (Fr (RW W w) w w') := by
  have MV := Lib.hid (rtmove h ok hm hW)
  have ok1 := moveK_ok ok
  have hk1 : k ∉ keysM (moveK S).m := by rw [moveK_m]; exact hk
  have hm1 : (moveK S).m.length ≤ 1000000 := by rw [moveK_m]; exact hm
  have hset : setK S k v = growK { putK (moveK S) k with m := (moveK S).m ++ [(k, v)] } := if_neg hk1
  rw [hset]
  generalize moveK S = S1 at *
  have OK := Lib.hid ok1
  have HK := Lib.hid hk1
  have HM := Lib.hid hm1
  have HW := Lib.hid hW
  have HS := Lib.hid hs
  clear h ok ok1 hk hk1 hm1 hset hm hW hs
  go_enter Try.func17, Try.ntmps17
  go_wp2_with fail
  refine MV.out.mono ?_
  rintro e w1 ⟨rfl, h1, f1⟩
  obtain ⟨gn, vo, od, next, kv, vv, s, r⟩ := h1.out
  go_wp2_with fail
  refine (rfind_eq s k (by have := HM.out; omega)).mono ?_
  rintro e w2 ⟨rr, rfl, hf, rfl⟩
  obtain rfl : rr = -1 := by
    rcases hf.out with ⟨i, u, rfl, hi, hno⟩ | ⟨h, _⟩
    · exact absurd (List.mem_map.2 ⟨_, List.mem_of_getElem? hi, rfl⟩) HK.out
    · exact h
  have F2 := f1
  have R := Lib.hid r
  have hWs := Nat.le_trans HW.out f1.out.size
  obtain ⟨n, hn⟩ : ∃ n, n = S1.m.length := ⟨_, rfl⟩
  have HN := Lib.hid hn
  have hml := HM.out
  rw [← hn] at hml
  -- the keys' row
  have fa : Fr Nob w2 (w2.alloc (.cells #[.string k] 9)) := (Fr.refl Nob w2).alloc _
  have sa := s.two.nob fa
  obtain ⟨A3, cap3, rfl, _⟩ := own_shape s.ks
  have d3 : w2.cell? ⟨t, 3, none⟩ = some (.slice A3 n cap3) := by rw [hn]; exact cell_of_row w2 t 3 _ _ (0, 0) s.hd
  have SA := Lib.hid sa
  have FA := Lib.hid fa
  have OA : Hid ((w2.alloc (.cells #[.string k] 9)).ownsRow W 9 1 (.slice A3 n cap3) n (strsV (keysM S1.m))) := Lib.hid (by have := sa.ks; rw [keysM_len, ← hn] at this; exact this)
  have NEWS : Hid (∀ (i : Nat) (v : Value), [Value.string k][i]? = some v → (w2.alloc (.cells #[.string k] 9)).cell? ((⟨w2.heap.size, 0, none⟩ : Addr).add i) = some v) := Lib.hid (new_one w2 _ _)
  have hb : W ≤ (w2.alloc (.cells #[.string k] 9)).heap.size := Nat.le_trans hWs fa.size
  have ONE : Hid (∀ v ∈ [Value.string k], v.oneCell' = true) := Lib.hid fun v hv => by
    simp only [List.mem_singleton] at hv
    subst hv
    rfl
  clear s r hf h1 hn fa sa f1
  go_wp2_with (with_reducible refine wpList_app (o := ⟨some 30, _, _, _, _, _⟩) rfl (.tmp 27) (.tmp 29) 29 rfl 9 #[.string ⟨#[]⟩] 1 16 Try.underlying29 str_info rfl (by omega) W (.slice A3 n cap3) n (strsV (keysM S1.m)) rfl OA.out ⟨w2.heap.size, 0, none⟩ 1 1 [.string k] rfl rfl NEWS.out ONE.out (by omega) (by omega) hb ?_)
  intro kv' w3 o3 f3 h3
  have s4 := SA.out.keys (K' := keysM S1.m ++ [k]) (kv' := kv') (by rw [HN.out] at f3; exact f3.out) (by
    rw [strsV_app, List.length_append, keysM_len, ← HN.out]
    exact o3.out) (fun i e => by
      rcases h3.out with h | h
      · rw [← HN.out]; exact .inl (by rw [← h]; exact e)
      · exact .inr (by have h9 := Option.some.inj (h.symm.trans e); simp; omega))
  have hd3 : w3.heap[t]? = some (.cells #[.slice (some ⟨gn, 0, none⟩) S1.now.length S1.now.length, vo, .int .i64 next, .slice A3 S1.m.length cap3, vv] 43 (0, 0)) := f3.out.heap SA.out.hd fun e => ownsRow_ne OA.out SA.out.hd (by decide) e
  have e3 : w3.cell? ⟨t, 3, none⟩ = some (.slice A3 S1.m.length cap3) := cell_of_row w3 t 3 _ _ (0, 0) hd3
  have z3 := frozen_of_row w3 t 3 _ _ hd3
  have G4 : Fr (RW W w2) w2 (w3.setCell ⟨t, 3, none⟩ kv') := ((FA.out.nob.trans (f3.out.mono (own_rb2 OA.out (.inl rfl))) fun i hi e => (RW.back FA.out.nob hi e : RW W w2 i)).setCell _ (fun hlt => RW.back FA.out.nob hlt ⟨⟨_, _, SA.out.hd, .inl rfl⟩, SA.out.lo⟩) _)
  obtain ⟨A4, cap4, rfl, _⟩ := own_shape o3.out
  have S4 := Lib.hid s4
  have F4 := Lib.hid (F2.out.rbs G4)
  clear s4 G4 o3 f3 h3 SA FA OA NEWS hb d3 ONE hd3
  go_upto_region 7 with fail
  generalize w3.setCell ⟨t, 3, none⟩ (.slice A4 (n + 1) cap4) = w4 at *
  have hWs4 := Nat.le_trans HW.out F4.out.size
  -- the numbers' row
  have fa : Fr Nob w4 (w4.alloc (.cells #[.int .i64 v] 3)) := (Fr.refl Nob w4).alloc _
  have sa := S4.out.nob fa
  obtain ⟨A5, cap5, rfl, _⟩ := own_shape sa.vs
  have d4 : w4.cell? ⟨t, 4, none⟩ = some (.slice A5 n cap5) := by rw [HN.out, ← List.length_map (f := fun x : ByteArray × Int => x.2)]; exact cell_of_row w4 t 4 _ _ (0, 0) S4.out.hd
  have SA := Lib.hid sa
  have FA := Lib.hid fa
  have OA : Hid ((w4.alloc (.cells #[.int .i64 v] 3)).ownsRow W 3 1 (.slice A5 n cap5) n (intsV (S1.m.map (·.2)))) := Lib.hid (by have := sa.vs; rw [List.length_map, ← HN.out] at this; exact this)
  have NEWS : Hid (∀ (i : Nat) (u : Value), [Value.int .i64 v][i]? = some u → (w4.alloc (.cells #[.int .i64 v] 3)).cell? ((⟨w4.heap.size, 0, none⟩ : Addr).add i) = some u) := Lib.hid (new_one w4 _ _)
  have hb : W ≤ (w4.alloc (.cells #[.int .i64 v] 3)).heap.size := Nat.le_trans hWs4 fa.size
  have ONE : Hid (∀ u ∈ [Value.int .i64 v], u.oneCell' = true) := Lib.hid fun u hv => by
    simp only [List.mem_singleton] at hv
    subst hv
    rfl
  clear fa sa e3 z3 hWs
  go_wp2_with (with_reducible refine wpList_app (o := ⟨some 40, _, _, _, _, _⟩) rfl (.tmp 37) (.tmp 39) 41 rfl 3 #[.int .i64 0] 1 8 Try.underlying41 int_info rfl (by omega) W (.slice A5 n cap5) n (intsV (S1.m.map (·.2))) rfl OA.out ⟨w4.heap.size, 0, none⟩ 1 1 [.int .i64 v] rfl rfl NEWS.out ONE.out (by omega) (by omega) hb ?_)
  intro vv' w5 o5 f5 h5
  have s6 := SA.out.vals (V' := S1.m.map (·.2) ++ [v]) (vv' := vv') (by rw [List.length_map, ← HN.out]; exact f5.out) (by
    rw [intsV_app, List.length_append, List.length_map, ← HN.out]
    exact o5.out)
  have hd5 : w5.heap[t]? = some (.cells #[.slice (some ⟨gn, 0, none⟩) S1.now.length S1.now.length, vo, .int .i64 next, .slice A4 (n + 1) cap4, .slice A5 n cap5] 43 (0, 0)) := by
    have := f5.out.heap SA.out.hd fun e => ownsRow_ne OA.out SA.out.hd (by decide) e
    rw [List.length_map, ← HN.out] at this
    exact this
  have e3 : w5.cell? ⟨t, 4, none⟩ = some (.slice A5 n cap5) := cell_of_row w5 t 4 _ _ (0, 0) hd5
  have z3 := frozen_of_row w5 t 4 _ _ hd5
  have G4 : Fr (RW W w4) w4 (w5.setCell ⟨t, 4, none⟩ vv') := ((FA.out.nob.trans (f5.out.mono (own_rb2 OA.out (.inr rfl))) fun i hi e => (RW.back FA.out.nob hi e : RW W w4 i)).setCell _ (fun hlt => RW.back FA.out.nob hlt ⟨⟨_, _, SA.out.hd, .inl rfl⟩, SA.out.lo⟩) _)
  obtain ⟨A6, cap6, rfl, _⟩ := own_shape o5.out
  have S6 : Hid (RIn (w5.setCell ⟨t, 4, none⟩ (.slice A6 (n + 1) cap6)) W t gn S1.now vo od next (.slice A4 (n + 1) cap4) (.slice A6 (n + 1) cap6) (S1.m ++ [(k, v)])) := Lib.hid (RIn2.one (by
    rw [keysM_app, List.map_append]
    exact s6))
  have F6 := Lib.hid (F4.out.rbs G4)
  clear s6 G4 o5 f5 h5 SA FA OA NEWS hb d4 ONE hd5 S4 F4 F2 hWs4
  go_upto_region 8 with fail
  generalize w5.setCell ⟨t, 4, none⟩ (.slice A6 (n + 1) cap6) = w6 at *
  clear e3 z3
  have hWs6 := Nat.le_trans HW.out F6.out.size
  have RO := Lib.hid (rold_eq S6.out R.out.le R.out.big k HS.out)
  have HRP := Lib.hid (R.out.put k)
  obtain ⟨X, hX⟩ : ∃ X, oldR od.length next k = X := ⟨_, rfl⟩
  rw [hX] at RO HRP
  clear hX
  go_wp2_with fail
  refine RO.out.mono ?_
  rintro e w7 ⟨rfl, q, rfl⟩
  go_upto_if 47 with fail
  have S7 := Lib.hid (S6.out.nob ((Fr.refl Nob w6).drewN q))
  have F7 := Lib.hid (F6.out.drewN q)
  generalize w6.drewN q = w7 at *
  clear S6 F6 RO MV
  have hW7 := Nat.le_trans HW.out F7.out.size
  go_cut [] (fun W8 => ∃ vo' od', Hid (RIn W8 W t gn (putK S1 k).now vo' od' next (.slice A4 (n + 1) cap4) (.slice A6 (n + 1) cap6) (S1.m ++ [(k, v)])) ∧ Hid (RSim (putK S1 k) od' next) ∧ Hid (Fr (RW W w) w W8))
  case first =>
    rcases HRP.out with ⟨hx, hno, r2, e2⟩ | ⟨hx, hnl, hbl, r2, e2⟩
    · subst hx
      have PUT := Lib.hid (rput_eq S7.out k HS.out OK.out.pos OK.out.big (by
        have h1 := sizes_move OK.out 0
        have h2 := chain_len (l := S1.now) (i := hashK k % S1.now.length)
        have h3 := OK.out.len
        have h4 := HM.out
        omega) hW7)
      have GN := Lib.hid S7.out.nws.rw
      have R2 := Lib.hid r2
      have E2 := Lib.hid e2
      clear r2 e2 hno hW7
      go_wp2_with fail
      refine PUT.out.mono ?_
      rintro e w8 ⟨rfl, s8, f8⟩
      have F8 := Lib.hid (F7.out.rbs (f8.out.mono fun i _ e => by unfold One at e; subst e; exact GN.out))
      clear f8 PUT
      go_wp2_with fail
      go_meet
      rw [← E2.out] at s8
      exact ⟨_, _, s8, R2, F8⟩
    · obtain ⟨b, hbe⟩ : ∃ b, hashK k % od.length = b := ⟨_, rfl⟩
      rw [hbe] at hx hbl
      subst hx
      obtain ⟨go, rfl, hne, hro⟩ : ∃ go, vo = .slice (some ⟨go, 0, none⟩) od.length od.length ∧ go ≠ gn ∧ RowsAt w7 W (.slice A4 (n + 1) cap4) go od := by
        rcases S7.out.ods with ⟨h, _⟩ | h
        · rw [h] at hbl; simp at hbl
        · exact h
      obtain ⟨l, hle⟩ : ∃ l, od.getD b [] = l := ⟨_, rfl⟩
      have hg : od[b]? = some l := by rw [← hle, List.getD_eq_getElem?_getD, List.getElem?_eq_getElem hbl]; rfl
      have hpk : pushK od k = od.set b (k :: l) := by rw [pushK_set, hbe, hle]
      rw [hpk] at r2
      have hll : l.length ≤ 1000001 := by
        have h1 := sizes_move OK.out b
        have h2 := (R.out.first hnl).2
        have h4 := HM.out
        rw [← h2, hle] at h1
        omega
      have HRO := Lib.hid hro
      obtain ⟨hWg, cs, c, hcs, hr⟩ := hro
      obtain ⟨u, hu, hin⟩ := hr b l hg
      have d0 : w7.cell? ⟨t, 1, none⟩ = some (.slice (some ⟨go, 0, none⟩) od.length od.length) := cell_of_row w7 t 1 _ _ (0, 0) S7.out.hd
      have cb : w7.cell? ⟨go, b, none⟩ = some u := by rw [cell_of_row w7 go b _ _ (0, 0) c]; exact hu
      have fz := frozen_of_row w7 go b _ _ c
      have ne1 : ¬ go = w7.heap.size := by have := lt_of_block c; omega
      have F3 : Hid (Fr Nob w7 (w7.alloc (.cells #[.string k] 9)).drew) := Lib.hid ((Fr.refl Nob w7).alloc _).drew
      have own : Hid ((w7.alloc (.cells #[.string k] 9)).drew.ownsRow w7.heap.size 9 1 (.slice (some ⟨w7.heap.size, 0, none⟩) 1 1) 1 (strsV [k])) := Lib.hid ⟨rfl, .inr ⟨w7.heap.size, 1, _, rfl, Nat.le_refl _, heap_alloc_new w7 _, Nat.le_refl _, by unfold maxLen; omega, rfl, by simp [strsV]⟩⟩
      have c3 := F3.out.heap c fun h => h
      have a0 : (w7.alloc (.cells #[.string k] 9)).cell? ⟨t, 1, none⟩ = some (.slice (some ⟨go, 0, none⟩) od.length od.length) := F3.out.cell d0 fun h => h
      have ab : (w7.alloc (.cells #[.string k] 9)).cell? ⟨go, b, none⟩ = some u := F3.out.cell cb fun h => h
      have az : (w7.alloc (.cells #[.string k] 9)).frozen? ⟨go, b, none⟩ = false := frozen_of_row _ go b _ _ c3
      have C3 := Lib.hid c3
      clear c3
      have hlt1 : (b : Int) < (od.length : Int) := by omega
      have hge : (0 : Int) ≤ (b : Int) := by omega
      have KLT : Hid (∀ q, (Value.slice A4 (n + 1) cap4).ownBlock = some q → q < w7.heap.size) := Lib.hid fun q e => (S7.out.ks.lt q e).2
      have HW7 := Lib.hid hW7
      have HLT := Lib.hid hbl
      have HNE := Lib.hid hne
      have R2 := Lib.hid r2
      have E2 := Lib.hid e2
      have GO := Lib.hid (show RW W w7 go from ⟨⟨cs, _, c, .inr (.inl rfl)⟩, hWg⟩)
      obtain ⟨⟨A, cap, rfl, hcell⟩, _⟩ := hin
      have HCL := Lib.hid hcell
      clear hr hu hcs c hWg hcell hbl hg hle hpk hnl r2 e2 hne hbe hW7 HRP
      cases l with
      | nil =>
        have XX := Lib.hid (InR.new (W := W) (kv := .slice A4 (n + 1) cap4) own.out HW7.out KLT.out)
        go_wp2_with fail
        go_region_law (first
          | (refine step_app_none (o := ⟨some 62, _, _, _, _, _⟩) rfl (.tmp 54) (.tmp 61) 29 rfl 9 #[.string ⟨#[]⟩] 1 16 Try.underlying29 str_info (some ⟨w7.heap.size, 0, none⟩) 1 1 (Nat.le_refl _) rfl A cap rfl ?_))
        all_goals
          go_wp2_with fail
          go_meet
          refine ⟨.slice (some ⟨go, 0, none⟩) od.length od.length, _, Lib.hid ?_, R2, Lib.hid (F7.out.rbs ((F3.out.nob (S := RW W w7)).setCell _ (fun _ => GO.out) _))⟩
          rw [E2.out]
          exact (S7.out.nob F3.out).setOld HNE.out (HRO.out.keep F3.out (fun h => h) fun _ _ _ _ h => h) HLT.out XX.out
      | cons x r =>
        obtain ⟨g2, o2, rfl, hc⟩ := HCL.out (by simp)
        have NEWS : Hid (∀ j v, (strsV (x :: r))[j]? = some v → (w7.alloc (.cells #[.string k] 9)).drew.cell? ((⟨g2, o2, none⟩ : Addr).add j) = some v) := Lib.hid fun j v hv => by
          unfold strsV at hv
          rw [List.getElem?_map] at hv
          obtain ⟨y, hy, rfl⟩ := Option.map_eq_some_iff.1 hv
          rw [Addr.add_lit]
          exact F3.out.cell (hc j y hy) fun h => h
        have HN2 : Hid ((strsV (x :: r)).length = (x :: r).length * 1) := Lib.hid (by unfold strsV; rw [List.length_map, Nat.mul_one])
        clear hc
        go_wp2_with fail
        go_region_law (first
          | (refine step_app (o := ⟨some 62, _, _, _, _, _⟩) rfl (.tmp 54) (.tmp 61) 29 rfl 9 #[.string ⟨#[]⟩] 1 16 Try.underlying29 str_info rfl (by omega) w7.heap.size (.slice (some ⟨w7.heap.size, 0, none⟩) 1 1) 1 (strsV [k]) rfl own.out ⟨g2, o2, none⟩ (x :: r).length cap (strsV (x :: r)) rfl HN2.out NEWS.out (strsV_one _) (by omega) (by omega) (by simp) ?_
             intro v5 w5 o5 f5 h5
             clear h5
             have NO : Hid (∀ q, q < w7.heap.size → ¬ (fun q => (Value.slice (some ⟨w7.heap.size, 0, none⟩) 1 1).ownBlock = some q) q) := Lib.hid fun q hq e => by simp [Value.ownBlock] at e; omega
             have F5 : Hid (Fr Nob w7 w5) := Lib.hid (F3.out.trans f5.out fun q hq e => NO.out q hq e)
             obtain ⟨hWg5, cs5, c5, hcs5, hr5⟩ := HRO.out.keep F5.out (fun h => h) fun _ _ _ _ h => h
             have p0 : w5.cell? ⟨t, 1, none⟩ = some (.slice (some ⟨go, 0, none⟩) od.length od.length) := F5.out.cell d0 fun h => h
             have pb : w5.cell? ⟨go, b, none⟩ = some (.slice (some ⟨g2, o2, none⟩) (x :: r).length cap) := F5.out.cell cb fun h => h
             have pz : w5.frozen? ⟨go, b, none⟩ = false := frozen_of_row _ go b _ _ c5
             obtain ⟨a5, cap5', rfl, _⟩ := own_shape o5.out
             have O5 := Lib.hid o5.out
             clear hWg5 hcs5 hr5 c5 f5 o5 NO))
        all_goals
          have XX := Lib.hid (InR.new (W := W) (kv := .slice A4 (n + 1) cap4) (l := k :: x :: r) O5.out HW7.out KLT.out)
          go_wp2_with fail
          go_meet
          refine ⟨.slice (some ⟨go, 0, none⟩) od.length od.length, _, Lib.hid ?_, R2, Lib.hid (F7.out.rbs ((F5.out.nob (S := RW W w7)).setCell _ (fun _ => GO.out) _))⟩
          rw [E2.out]
          exact (S7.out.nob F5.out).setOld HNE.out (HRO.out.keep F5.out (fun h => h) fun _ _ _ _ h => h) HLT.out XX.out
  case rest =>
    obtain ⟨vo', od', s8, r8, f8⟩ := hcut
    generalize wc = w8 at *
    clear S7 F7 HRP hW7
    have LF := Lib.hid fun q => rleft_eq (s8.out.nob ((Fr.refl Nob w8).drewN q)) r8.out.le r8.out.big
    have hlf : od'.length - next = S1.left := by
      have h1 := r8.out.left
      have h2 : (putK S1 k).left = S1.left := by unfold putK; split <;> rfl
      omega
    rw [hlf] at LF
    obtain ⟨nn, hnn⟩ : ∃ nn, (putK S1 k).now.length = nn := ⟨_, rfl⟩
    have HNN := Lib.hid hnn
    have hnb : nn ≤ 131072 := by
      rw [← hnn]
      unfold putK
      split
      · exact OK.out.big
      · show (pushK S1.now k).length ≤ _
        rw [pushK_len]
        exact OK.out.big
    obtain ⟨G, hG⟩ : ∃ G, decide (3 * nn < 2 * (n + 1) ∧ S1.left = 0 ∧ nn < 65536) = G := ⟨_, rfl⟩
    have HG := Lib.hid hG
    have s8o := s8.out.hd
    rw [hnn] at s8o
    have c0 : w8.cell? ⟨t, 0, none⟩ = some (.slice (some ⟨gn, 0, none⟩) nn nn) := cell_of_row w8 t 0 _ _ (0, 0) s8o
    have c3 : w8.cell? ⟨t, 3, none⟩ = some (.slice A4 (n + 1) cap4) := cell_of_row w8 t 3 _ _ (0, 0) s8o
    have SG := Lib.hid (show growK { putK S1 k with m := S1.m ++ [(k, v)] } = if G = true then { now := List.replicate (2 * nn) [], old := (putK S1 k).now, left := nn, m := S1.m ++ [(k, v)] } else { putK S1 k with m := S1.m ++ [(k, v)] } by
      have h2 : (putK S1 k).left = S1.left := by unfold putK; split <;> rfl
      have h3 : (S1.m ++ [(k, v)]).length = n + 1 := by rw [List.length_append, HN.out]; rfl
      unfold growK
      show (if 3 * (putK S1 k).now.length < 2 * (S1.m ++ [(k, v)]).length ∧ (putK S1 k).left = 0 ∧ (putK S1 k).now.length < 65536 then _ else _) = _
      rw [hnn, h2, h3, ← hG]
      by_cases hc : 3 * nn < 2 * (n + 1) ∧ S1.left = 0 ∧ nn < 65536
      · rw [if_pos hc, if_pos (decide_eq_true hc)]
      · rw [if_neg hc, if_neg (by rw [decide_eq_false hc]; exact Bool.false_ne_true)])
    have hw3 : IntKind.i64.wrap (3 * (nn : Int)) = 3 * (nn : Int) := by rw [IntKind.wrap_i64]; omega
    have hw2 : IntKind.i64.wrap (2 * ((n : Int) + 1)) = 2 * ((n : Int) + 1) := by rw [IntKind.wrap_i64]; omega
    have HW3 := Lib.hid hw3
    have HW2 := Lib.hid hw2
    clear hw3 hw2
    clear hlf hnn hG s8o
    go_upto_region 12 with fail
    go_cut [92] (fun x W9 => x = .bool G ∧ ∃ q, W9 = w8.drewN q)
    case first =>
      have hl65 : (S1.left : Int) ≤ 65536 := by have h1 := OK.out.le; have h2 := OK.out.olds; omega
      by_cases p1 : 3 * nn < 2 * (n + 1)
      · have q1 : (3 : Int) * (nn : Int) < 2 * ((n : Int) + 1) := by omega
        have q1b : decide (IntKind.i64.wrap (3 * (nn : Int)) < IntKind.i64.wrap (2 * ((n : Int) + 1))) = true := by rw [HW3.out, HW2.out]; exact decide_eq_true q1
        by_cases p2 : S1.left = 0
        · rw [p2] at LF
          by_cases p3 : nn < 65536
          · obtain rfl : G = true := by rw [← HG.out]; exact decide_eq_true ⟨p1, p2, p3⟩
            have q3 : (nn : Int) < 65536 := by omega
            clear HG SG p1 p2 p3 hl65
            go_quiet ((go_at_call 24; first | exact quietD (LF.out _) | exact quietD' (LF.out _)))
            go_wp2_with fail
            go_meet
            exact ⟨rfl, _, rfl⟩
          · obtain rfl : G = false := by rw [← HG.out]; exact decide_eq_false fun h => p3 h.2.2
            have q3 : ¬ (nn : Int) < 65536 := by omega
            clear HG SG p1 p2 p3 hl65
            go_quiet ((go_at_call 24; first | exact quietD (LF.out _) | exact quietD' (LF.out _)))
            go_wp2_with fail
            go_meet
            exact ⟨rfl, _, rfl⟩
        · obtain rfl : G = false := by rw [← HG.out]; exact decide_eq_false fun h => p2 h.2.1
          have q2 : ¬ (S1.left : Int) = 0 := by omega
          have q2' : (((S1.left : Nat) : Int) == 0) = false := by simpa using q2
          clear HG SG p1 p2
          go_quiet ((go_at_call 24; first | exact quietD (LF.out _) | exact quietD' (LF.out _)))
          go_wp2_with fail
          go_meet
          exact ⟨rfl, _, rfl⟩
      · obtain rfl : G = false := by rw [← HG.out]; exact decide_eq_false fun h => p1 h.1
        have q1 : ¬ (3 : Int) * (nn : Int) < 2 * ((n : Int) + 1) := by omega
        have q1' : decide (IntKind.i64.wrap (3 * (nn : Int)) < IntKind.i64.wrap (2 * ((n : Int) + 1))) = false := by rw [HW3.out, HW2.out]; exact decide_eq_false q1
        clear HG SG p1 hl65
        go_quiet (fail)
        go_wp2_with fail
        go_meet
        exact ⟨rfl, _, rfl⟩
    case rest =>
      obtain ⟨rfl, q8, rfl⟩ := hcut
      have S9 := Lib.hid (s8.out.nob ((Fr.refl Nob w8).drewN q8))
      have F9 := Lib.hid (f8.out.drewN q8)
      have R8 := r8
      generalize w8.drewN q8 = w9 at *
      clear c0 c3 LF s8 f8 r8
      cases G with
      | false =>
        go_wp2_with fail
        go_ret
        refine ⟨rfl, Lib.hid ?_, F9⟩
        rw [SG.out]
        exact ⟨gn, vo', od', next, _, _, S9.out, R8.out.upd rfl rfl⟩
      | true =>
        obtain ⟨p1, p2, p3⟩ := of_decide_eq_true HG.out
        have k3 : (nn : Int) < 65536 := by omega
        have hd9 := S9.out.hd
        rw [HNN.out] at hd9
        have d0 : w9.cell? ⟨t, 0, none⟩ = some (.slice (some ⟨gn, 0, none⟩) nn nn) := cell_of_row w9 t 0 _ _ (0, 0) hd9
        have d1 : w9.cell? ⟨t, 1, none⟩ = some vo' := cell_of_row w9 t 1 _ _ (0, 0) hd9
        have z1 := frozen_of_row w9 t 1 _ _ hd9
        have H10 : Hid ((w9.setCell ⟨t, 1, none⟩ (.slice (some ⟨gn, 0, none⟩) nn nn)).heap[t]? = some (.cells #[.slice (some ⟨gn, 0, none⟩) nn nn, .slice (some ⟨gn, 0, none⟩) nn nn, .int .i64 next, .slice A4 (n + 1) cap4, .slice A6 (n + 1) cap6] 43 (0, 0))) := Lib.hid (heap_setCell_same w9 t 1 _ _ _ hd9)
        have f10 : Hid (Fr (One t) w9 (w9.setCell ⟨t, 1, none⟩ (.slice (some ⟨gn, 0, none⟩) nn nn))) := Lib.hid ((Fr.refl _ _).set1 _)
        have W9 := Lib.hid (Nat.le_trans HW.out F9.out.size)
        have HP3 := Lib.hid p3
        clear hd9 HG p1 p2 p3
        go_wp2_with (with_reducible refine wpList_make_all rfl _ _ 40 rfl 29 #[.slice none 0 0] 1 24 Try.underlying40 sl_info .i64 .i64 (2 * nn) rfl rfl (by omega) (by omega) ?_)
        intro cs hcs
        have hcs2 := hcs.out.trans (made_sls (2 * nn))
        have hsz : (w9.setCell ⟨t, 1, none⟩ (.slice (some ⟨gn, 0, none⟩) nn nn)).heap.size = w9.heap.size := by simp
        generalize w9.setCell ⟨t, 1, none⟩ (.slice (some ⟨gn, 0, none⟩) nn nn) = w10 at *
        have fa : Fr Nob w10 (w10.alloc (.cells cs 29)) := (Fr.refl Nob w10).alloc _
        have hgx : (w10.alloc (.cells cs 29)).heap[w10.heap.size]? = some (.cells (List.replicate (2 * nn) (Value.slice none 0 0)).toArray 29 (0, 0)) := by rw [heap_alloc_new, hcs2]
        rw [hsz] at hgx
        have HGX := Lib.hid hgx
        have H11 := Lib.hid (fa.heap H10.out fun h => h)
        have F11 := Lib.hid (f10.out.trans' fa.nob)
        clear hsz fa hgx hcs hcs2 d0 d1 z1 f10 H10
        generalize w10.alloc (.cells cs 29) = w11 at *
        have d0 : w11.cell? ⟨t, 0, none⟩ = some (.slice (some ⟨gn, 0, none⟩) nn nn) := cell_of_row w11 t 0 _ _ (0, 0) H11.out
        have d2 : w11.cell? ⟨t, 2, none⟩ = some (.int .i64 next) := cell_of_row w11 t 2 _ _ (0, 0) H11.out
        have z0 := frozen_of_row w11 t 0 _ _ H11.out
        have z2 := frozen_of_row w11 t 2 _ _ H11.out
        go_wp2_with fail
        go_ret
        have f12 : Fr (One t) w11 ((w11.setCell ⟨t, 0, none⟩ (.slice (some ⟨w9.heap.size, 0, none⟩) (2 * nn) (2 * nn))).setCell ⟨t, 2, none⟩ (.int .i64 0)) := ((Fr.refl _ _).set1 _).set1 _
        have h12 := heap_setCell_same _ t 2 _ _ (.int .i64 0) (heap_setCell_same w11 t 0 _ _ (.slice (some ⟨w9.heap.size, 0, none⟩) (2 * nn) (2 * nn)) H11.out)
        have F12 := F11.out.trans' f12
        refine ⟨rfl, Lib.hid ?_, Lib.hid (F9.out.rbs (F12.mono fun i _ e => by rw [show i = t from e]; exact S9.out.rwt))⟩
        rw [SG.out]
        simp only [if_true]
        have hne : gn ≠ w9.heap.size := by
          obtain ⟨_, cs2, c2, _⟩ := S9.out.nws
          have := lt_of_block c2
          omega
        refine ⟨w9.heap.size, .slice (some ⟨gn, 0, none⟩) nn nn, (putK S1 k).now, 0, .slice A4 (n + 1) cap4, .slice A6 (n + 1) cap6, ⟨?_, ?_, .inr ⟨gn, by rw [HNN.out], hne, ?_⟩, ?_, ?_, S9.out.lo⟩, ⟨Nat.zero_le _, by show nn = _ - 0; rw [HNN.out]; rfl, fun _ => rfl, fun h l hl => ?_, by rw [HNN.out]; exact Nat.le_of_lt HP3.out⟩⟩
        · show _ = some (Obj.cells #[.slice (some ⟨w9.heap.size, 0, none⟩) (List.replicate (2 * nn) ([] : List ByteArray)).length (List.replicate (2 * nn) ([] : List ByteArray)).length, _, _, _, _] _ _)
          rw [List.length_replicate]
          exact h12
        · exact rows_new _ W9.out (f12.heap HGX.out (types_ne HGX.out H11.out (by decide)))
        · refine S9.out.nws.keep F12 ?_ fun q cs2 c2 _ => types_ne c2 S9.out.hd (by decide)
          obtain ⟨_, cs2, c2, _⟩ := S9.out.nws
          exact types_ne c2 S9.out.hd (by decide)
        · exact F12.ownsRow S9.out.ks fun q e e2 => by unfold One at e2; subst e2; exact ownsRow_ne S9.out.ks S9.out.hd (by decide) e
        · exact F12.ownsRow S9.out.vs fun q e e2 => by unfold One at e2; subst e2; exact ownsRow_ne S9.out.vs S9.out.hd (by decide) e
        · replace h : nn = 0 := h
          have hz : (putK S1 k).now = [] := List.eq_nil_of_length_eq_zero (by rw [HNN.out]; exact h)
          rw [hz] at hl
          cases hl
end
end Go.Proofs.Ytefjcjmdmnfbhaa
