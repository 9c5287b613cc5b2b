/-
  The reference's table beside the plain one: Delete: the rows of keys and numbers.
-/
import Derived.Test.YtefjcjmdmnfbhaaRtI
namespace Go.Proofs.Ytefjcjmdmnfbhaa
open Go.RowKit

theorem del_take : ∀ {m : List (ByteArray × Int)} {k : ByteArray} {i : Nat} {u : Int}, (keysM m).Nodup → m[i]? = some (k, u) → delP m k = m.take i ++ m.drop (i + 1)
  | [], _, _, _, _, h => by simp at h
  | (y :: m), k, 0, u, hd, h => by
    simp at h
    subst h
    have hn : k ∉ keysM m := by
      unfold keysM at hd ⊢
      rw [List.map_cons, List.nodup_cons] at hd
      exact hd.1
    have e : delP ((k, u) :: m) k = delP m k := by unfold delP; simp
    rw [e]
    unfold delP
    rw [List.filter_eq_self.2]
    · rfl
    · intro x hx
      simp only [decide_eq_true_eq]
      intro e
      exact hn (List.mem_map.2 ⟨x, hx, e⟩)
  | (y :: m), k, i + 1, u, hd, h => by
    have hd2 : (keysM m).Nodup := by
      unfold keysM at hd ⊢
      rw [List.map_cons, List.nodup_cons] at hd
      exact hd.2
    have hne : y.1 ≠ k := by
      unfold keysM at hd
      rw [List.map_cons, List.nodup_cons] at hd
      intro e
      have hm : (k, u) ∈ m := List.mem_of_getElem? (by simpa using h)
      exact hd.1 (by rw [e]; exact List.mem_map.2 ⟨_, hm, rfl⟩)
    have ih := del_take hd2 (by simpa using h : m[i]? = some (k, u))
    have e2 : delP (y :: m) k = y :: delP m k := by unfold delP; rw [List.filter_cons_of_pos (by simpa using hne)]
    rw [e2, ih]
    rfl
theorem intsV_get {K : List Int} {j : Nat} {u : Value} (h : (intsV K)[j]? = some u) : ∃ k, K[j]? = some k ∧ u = .int .i64 k := by
  unfold intsV at h
  rw [List.getElem?_map] at h
  obtain ⟨k, hk, rfl⟩ := Option.map_eq_some_iff.1 h
  exact ⟨k, hk, rfl⟩
theorem int_info2 : (Try.prog.info? 3).map (fun i => (i.zero.map Value.cells, i.size, i.bytes)) = some (some #[.int .i64 0], 1, 8) := by kernel_rfl
theorem intsV_one (l : List Int) : ∀ v ∈ intsV l, v.oneCell' = true := by
  intro v hv
  obtain ⟨c, _, rfl⟩ := List.mem_map.1 hv
  rfl
theorem intsV_app (a b : List Int) : intsV (a ++ b) = intsV a ++ intsV b := by unfold intsV; rw [List.map_append]
theorem strsV_get {K : List ByteArray} {j : Nat} {u : Value} (h : (strsV K)[j]? = some u) : ∃ k, K[j]? = some k ∧ u = .string k := by
  unfold strsV at h
  rw [List.getElem?_map] at h
  obtain ⟨k, hk, rfl⟩ := Option.map_eq_some_iff.1 h
  exact ⟨k, hk, rfl⟩

theorem step_len {α : Type _} (l : List (List α)) (f : List α → List α) (j : Nat) : ((l.take j).map f ++ l.drop j).length = l.length := by
  rw [List.length_append, List.length_map, List.length_take, List.length_drop]
  omega
theorem step_at {α : Type _} (l : List (List α)) (f : List α → List α) {j : Nat} (hj : j < l.length) : ((l.take j).map f ++ l.drop j)[j]? = l[j]? := by
  have h : ((l.take j).map f).length = j := by rw [List.length_map, List.length_take]; omega
  rw [List.getElem?_append_right (by omega), h, Nat.sub_self, List.getElem?_drop, Nat.add_zero]
theorem step_set {α : Type _} (l : List (List α)) (f : List α → List α) {j : Nat} {x : List α} (hj : j < l.length) (hx : l[j]? = some x) : ((l.take j).map f ++ l.drop j).set j (f x) = (l.take (j + 1)).map f ++ l.drop (j + 1) := by
  have h : ((l.take j).map f).length = j := by rw [List.length_map, List.length_take]; omega
  have e : l[j] = x := by rw [List.getElem?_eq_getElem hj] at hx; exact Option.some.inj hx
  rw [List.set_append_right _ _ (by omega), h, Nat.sub_self, List.drop_eq_getElem_cons hj, List.set_cons_zero, List.take_add_one, hx, List.map_append, List.append_assoc]
  rfl

section
variable {w : World} {W t : Nat} {S : KT}
set_option maxHeartbeats 8000000 in
set_option maxRecDepth 100000 in
theorem rtdel_no (h : RT w W t S) (ok : S.Ok) (k : ByteArray) (hm : S.m.length ≤ 1000000) (hW : W ≤ w.heap.size) (hk : k ∉ keysM S.m) :
    Calls Try.prog 19 #[.pointer (some ⟨t, 0, none⟩), .string k] w fun e w' => e = .returned (.bool false) ∧ Hid (RT w' W t (delK S k)) ∧ Hid (Fr (RW W w) w w') := by
  have MV := Lib.hid (rtmove h ok hm hW)
  have hk1 : k ∉ keysM (moveK S).m := by rw [moveK_m]; exact hk
  have hm1 : (moveK S).m.length ≤ 1000000 := by rw [moveK_m]; exact hm
  have hdel : delK S k = moveK S := if_neg hk1
  rw [hdel]
  generalize moveK S = S1 at *
  have HK := Lib.hid hk1
  have HM := Lib.hid hm1
  clear h ok hk hk1 hm1 hdel hm hW
  go_enter Try.func19, Try.ntmps19
  go_wp2_with fail
  refine MV.out.mono ?_
  rintro e w1 ⟨rfl, h1, f1⟩
  obtain ⟨gn, vo, od, next, kv, vv, s, r⟩ := h1.out
  go_wp2_with fail
  refine (rfind_eq s k (by have := HM.out; omega)).mono ?_
  rintro e w2 ⟨rr, rfl, hf, rfl⟩
  obtain rfl : rr = -1 := by
    rcases hf.out with ⟨i, u, rfl, hi, hno⟩ | ⟨h, _⟩
    · exact absurd (List.mem_map.2 ⟨_, List.mem_of_getElem? hi, rfl⟩) HK.out
    · exact h
  clear s r hf
  go_wp2_with fail
  go_ret
  exact ⟨rfl, h1, f1⟩

set_option maxHeartbeats 16000000 in
set_option maxRecDepth 100000 in
theorem rtdel_yes (h : RT w W t S) (ok : S.Ok) (k : ByteArray) (hm : S.m.length ≤ 1000000) (hW : W ≤ w.heap.size) (hk : k ∈ keysM S.m) :
    Calls Try.prog 19 #[.pointer (some ⟨t, 0, none⟩), .string k] w fun e w' => e = .returned (.bool true) ∧ Hid (RT w' W t (delK S k)) ∧ Hid (Fr (RW W w) w w') := by
  have MV := Lib.hid (rtmove h ok hm hW)
  have ok1 := moveK_ok ok
  have hk1 : k ∈ keysM (moveK S).m := by rw [moveK_m]; exact hk
  have hm1 : (moveK S).m.length ≤ 1000000 := by rw [moveK_m]; exact hm
  have hdel : delK S k = { moveK S with now := (moveK S).now.map (dropK k), old := (moveK S).old.map (dropK k), m := delP (moveK S).m k } := if_pos hk1
  rw [hdel]
  generalize moveK S = S1 at *
  have OK := Lib.hid ok1
  have HK := Lib.hid hk1
  have HM := Lib.hid hm1
  have HW := Lib.hid hW
  clear h ok ok1 hk hk1 hm1 hdel hm hW
  go_enter Try.func19, Try.ntmps19
  go_wp2_with fail
  refine MV.out.mono ?_
  rintro e w1 ⟨rfl, h1, f1⟩
  obtain ⟨gn, vo, od, next, kv, vv, s, r⟩ := h1.out
  go_wp2_with fail
  refine (rfind_eq s k (by have := HM.out; omega)).mono ?_
  rintro e w2 ⟨rr, rfl, hf, rfl⟩
  obtain ⟨i, u, rfl, hi⟩ : ∃ (i : Nat) (u : Int), rr = i ∧ S1.m[i]? = some (k, u) := by
    rcases hf.out with ⟨i, u, rfl, hi, hno⟩ | ⟨rfl, hno⟩
    · exact ⟨i, u, rfl, hi⟩
    · obtain ⟨x, hx, e⟩ := List.mem_map.1 HK.out
      obtain ⟨i, hi, e2⟩ := List.getElem_of_mem hx
      exact absurd e (hno i x (by rw [List.getElem?_eq_getElem hi, e2]))
  have hlt := (List.getElem?_eq_some_iff.1 hi).1
  have R := Lib.hid r
  have s2 := s.two
  obtain ⟨n, hn⟩ : ∃ n, n = S1.m.length := ⟨_, rfl⟩
  have hK : (keysM S1.m).length = n := by rw [keysM_len, hn]
  have hV : (S1.m.map (·.2)).length = n := by rw [List.length_map, hn]
  have hD := Lib.hid (del_take OK.out.nd hi)
  obtain ⟨g3, cap3, rfl⟩ := own_nil s.ks (by omega)
  obtain ⟨g4, cap4, rfl⟩ := own_nil s.vs (by omega)
  have hml := HM.out
  rw [← hn] at hlt hml s2
  have hks := s2.ks
  rw [hK] at hks
  have hcap : n ≤ cap3 := by
    obtain ⟨_, _, he, hle, _⟩ := own_shape hks
    injection he with _ _ h3
    omega
  have h0 : ¬ (i : Int) < 0 := by omega
  have d3 : w2.cell? ⟨t, 3, none⟩ = some (.slice (some ⟨g3, 0, none⟩) n cap3) := cell_of_row w2 t 3 _ _ (0, 0) s2.hd
  have T1 := slice_toS (some ⟨g3, 0, none⟩) n cap3 i (by omega)
  obtain ⟨A', T2, hA'⟩ := slice_fromS g3 n cap3 (i + 1) (by omega)
  have T2' : ∀ w, (Instr.slice 29 (.slice (some ⟨g3, 0, none⟩) n cap3) (some (.int .i64 (IntKind.i64.wrap ((i : Int) + 1)))) none none).run Try.prog w = .ok (.slice A' (n - (i + 1)) (cap3 - (i + 1))) w := fun w => by
    rw [show IntKind.i64.wrap ((i : Int) + 1) = ((i + 1 : Nat) : Int) by rw [IntKind.wrap_i64]; omega]
    exact T2 w
  have F3 : Hid (Fr Nob w2 (w2.alloc (.cells #[] 9)).drew) := Lib.hid ((Fr.refl Nob w2).alloc _).drew
  have own : Hid ((w2.alloc (.cells #[] 9)).drew.ownsRow w2.heap.size 9 1 (.slice (some ⟨w2.heap.size, 0, none⟩) 0 0) 0 []) := Lib.hid (World.ownsRow_made w2 #[] 0 (Nat.le_refl _) (Nat.zero_le _) rfl)
  have a3 : (w2.alloc (.cells #[] 9)).cell? ⟨t, 3, none⟩ = some (.slice (some ⟨g3, 0, none⟩) n cap3) := F3.out.cell d3 fun h => h
  have KC : Hid (∀ j q, (keysM S1.m)[j]? = some q → w2.cell? ⟨g3, j, none⟩ = some (.string q)) := Lib.hid fun j q hq => by
    have := hks.cells (g := g3) rfl j (.string q) (by unfold strsV; rw [List.getElem?_map, hq]; rfl)
    rw [Addr.add_lit, Nat.zero_add] at this
    exact this
  obtain ⟨K1, hK1⟩ : ∃ K1, K1 = (keysM S1.m).take i := ⟨_, rfl⟩
  obtain ⟨K2, hK2⟩ : ∃ K2, K2 = (keysM S1.m).drop (i + 1) := ⟨_, rfl⟩
  have l1 : K1.length = i := by rw [hK1, List.length_take, hK]; omega
  have l2 : K2.length = n - (i + 1) := by rw [hK2, List.length_drop, hK]
  have N1 : Hid (0 < i → ∃ ad, (some ⟨g3, 0, none⟩ : Option Addr) = some ad ∧ ∀ j u, (strsV K1)[j]? = some u → (w2.alloc (.cells #[] 9)).drew.cell? (ad.add j) = some u) := Lib.hid fun _ => ⟨_, rfl, fun j u hu => by
    obtain ⟨q, hq, rfl⟩ := strsV_get hu
    rw [Addr.add_lit, Nat.zero_add]
    have hj : j < i := by rw [← l1]; exact (List.getElem?_eq_some_iff.1 hq).1
    rw [hK1, List.getElem?_take_of_lt hj] at hq
    exact F3.out.cell (KC.out j q hq) fun h => h⟩
  have N2 : Hid (∀ W, Fr Nob w2 W → 0 < n - (i + 1) → ∃ ad, A' = some ad ∧ ∀ j u, (strsV K2)[j]? = some u → W.cell? (ad.add j) = some u) := Lib.hid fun W f hp => ⟨_, hA' (by omega), fun j u hu => by
    obtain ⟨q, hq, rfl⟩ := strsV_get hu
    rw [Addr.add_lit]
    rw [hK2, List.getElem?_drop] at hq
    exact f.cell (KC.out _ q hq) fun h => h⟩
  have M1 : Hid ((strsV K1).length = i * 1) := Lib.hid (by unfold strsV; rw [List.length_map, l1, Nat.mul_one])
  have M2 : Hid ((strsV K2).length = (n - (i + 1)) * 1) := Lib.hid (by unfold strsV; rw [List.length_map, l2, Nat.mul_one])
  have PK : Hid (∀ (v6 : Value) (w6 : World), w6.ownsRow w2.heap.size 9 1 v6 (i + (n - (i + 1))) (strsV K1 ++ strsV K2) → Fr Nob w2 w6 → RIn2 (w6.setCell ⟨t, 3, none⟩ v6) W t gn S1.now vo od next v6 (.slice (some ⟨g4, 0, none⟩) n cap4) (K1 ++ K2) (S1.m.map (·.2)) ∧ Fr (RW W w) w (w6.setCell ⟨t, 3, none⟩ v6)) := Lib.hid fun v6 w6 o6 f6 => by
    have hWs := Nat.le_trans HW.out f1.out.size
    refine ⟨s2.keys f6.nob (by rw [strsV_app, List.length_append, l1, l2]; exact rows_base o6 hWs) (fun q e => .inr (o6.lt q e).1), f1.out.rbs (f6.nob.setCell _ (fun _ => s.rwt) _)⟩
  have TC : Hid (∀ W, Fr Nob w2 W → W.cell? ⟨t, 3, none⟩ = some (.slice (some ⟨g3, 0, none⟩) n cap3) ∧ W.frozen? ⟨t, 3, none⟩ = false) := Lib.hid fun W f => ⟨f.cell d3 fun h => h, frozen_of_row W t 3 _ _ (f.heap s2.hd fun h => h)⟩
  have HI := Lib.hid hi
  have hip : (i : Int) + 1 ≤ (n : Int) := by omega
  have HDD := hD
  have HK12 := Lib.hid (show K1 = (keysM S1.m).take i ∧ K2 = (keysM S1.m).drop (i + 1) from ⟨hK1, hK2⟩)
  clear s s2 r hf hks KC hK1 hK2 l1 l2 h1 f1 T2 hA' hi hD MV
  go_upto_region 5 with fail
  go_cut [] (fun W3 => ∃ kv', Hid (RIn2 W3 W t gn S1.now vo od next kv' (.slice (some ⟨g4, 0, none⟩) n cap4) (K1 ++ K2) (S1.m.map (·.2)) ∧ Fr (RW W w) w W3))
  case first =>
    clear HI OK HK HM HW R hn hK hV HDD HK12
    go_wp2_with fail
    go_region_law (first
      | (refine step_appG (o := ⟨some 23, _, _, _, _, _⟩) rfl (.tmp 16) (.tmp 22) 29 rfl 9 #[.string ⟨#[]⟩] 1 16 Try.underlying29 str_info rfl (by omega) w2.heap.size (some ⟨w2.heap.size, 0, none⟩) 0 0 [] rfl own.out (some ⟨g3, 0, none⟩) i cap3 (strsV K1) rfl M1.out N1.out (strsV_one _) (by omega) (by omega) (by simp) ?_
         intro v5 w5 o5 f5 h5
         clear h5
         rw [Nat.zero_add, List.nil_append] at o5
         have F5 : Hid (Fr Nob w2 w5) := Lib.hid (F3.out.trans f5.out fun q hq e => by simp [Value.ownBlock] at e; omega)
         obtain ⟨a5, cap5, rfl, _⟩ := own_shape o5.out
         obtain ⟨p3, pz⟩ := TC.out w5 F5.out
         have n2 := N2.out w5 F5.out
         have NN2 := Lib.hid n2
         have hb5 := F5.out.size
         clear n2 f5)
      | (refine step_appG (o := ⟨some 31, _, _, _, _, _⟩) rfl (.tmp 23) (.tmp 30) 29 rfl 9 #[.string ⟨#[]⟩] 1 16 Try.underlying29 str_info rfl (by omega) w2.heap.size a5 i cap5 (strsV K1) rfl o5.out A' (n - (i + 1)) (cap3 - (i + 1)) (strsV K2) rfl M2.out NN2.out (strsV_one _) (by omega) (by omega) hb5 ?_
         intro v6 w6 o6 f6 h6
         clear h6
         have F6 : Hid (Fr Nob w2 w6) := Lib.hid (F5.out.trans f6.out fun q hq e => by have := (o5.out.lt q e).1; omega)
         obtain ⟨a6, cap6, rfl, _⟩ := own_shape o6.out
         obtain ⟨q3, qz⟩ := TC.out w6 F6.out
         clear f6))
    all_goals
      go_wp2_with fail
      go_meet
      exact ⟨_, Lib.hid (PK.out _ _ o6.out F6.out)⟩
  case rest =>
    obtain ⟨kv', hh⟩ := hcut
    obtain ⟨s2, F2w⟩ := hh.out
    generalize wc = w3 at *
    clear hh F3 own a3 N1 N2 M1 M2 PK TC d3 T1 T2'
    have hvs := s2.vs
    rw [hV] at hvs
    have hcap4 : n ≤ cap4 := by
      obtain ⟨_, _, he, hle, _⟩ := own_shape hvs
      injection he with _ _ h3
      omega
    have d4 : w3.cell? ⟨t, 4, none⟩ = some (.slice (some ⟨g4, 0, none⟩) n cap4) := cell_of_row w3 t 4 _ _ (0, 0) s2.hd
    have T1 := slice_toI (some ⟨g4, 0, none⟩) n cap4 i (by omega)
    obtain ⟨A4, T2, hA'⟩ := slice_fromI g4 n cap4 (i + 1) (by omega)
    have T2' : ∀ w, (Instr.slice 41 (.slice (some ⟨g4, 0, none⟩) n cap4) (some (.int .i64 (IntKind.i64.wrap ((i : Int) + 1)))) none none).run Try.prog w = .ok (.slice A4 (n - (i + 1)) (cap4 - (i + 1))) w := fun w => by
      rw [show IntKind.i64.wrap ((i : Int) + 1) = ((i + 1 : Nat) : Int) by rw [IntKind.wrap_i64]; omega]
      exact T2 w
    have F3 : Hid (Fr Nob w3 (w3.alloc (.cells #[] 3)).drew) := Lib.hid ((Fr.refl Nob w3).alloc _).drew
    have own : Hid ((w3.alloc (.cells #[] 3)).drew.ownsRow w3.heap.size 3 1 (.slice (some ⟨w3.heap.size, 0, none⟩) 0 0) 0 []) := Lib.hid (World.ownsRow_made w3 #[] 0 (Nat.le_refl _) (Nat.zero_le _) rfl)
    have a4 : (w3.alloc (.cells #[] 3)).cell? ⟨t, 4, none⟩ = some (.slice (some ⟨g4, 0, none⟩) n cap4) := F3.out.cell d4 fun h => h
    have VC : Hid (∀ j q, (S1.m.map (·.2))[j]? = some q → w3.cell? ⟨g4, j, none⟩ = some (.int .i64 q)) := Lib.hid fun j q hq => by
      have := hvs.cells (g := g4) rfl j (.int .i64 q) (by unfold intsV; rw [List.getElem?_map, hq]; rfl)
      rw [Addr.add_lit, Nat.zero_add] at this
      exact this
    obtain ⟨V1, hV1⟩ : ∃ V1, V1 = (S1.m.map (·.2)).take i := ⟨_, rfl⟩
    obtain ⟨V2, hV2⟩ : ∃ V2, V2 = (S1.m.map (·.2)).drop (i + 1) := ⟨_, rfl⟩
    have v1 : V1.length = i := by rw [hV1, List.length_take, hV]; omega
    have v2 : V2.length = n - (i + 1) := by rw [hV2, List.length_drop, hV]
    have N1 : Hid (0 < i → ∃ ad, (some ⟨g4, 0, none⟩ : Option Addr) = some ad ∧ ∀ j u, (intsV V1)[j]? = some u → (w3.alloc (.cells #[] 3)).drew.cell? (ad.add j) = some u) := Lib.hid fun _ => ⟨_, rfl, fun j u hu => by
      obtain ⟨q, hq, rfl⟩ := intsV_get hu
      rw [Addr.add_lit, Nat.zero_add]
      have hj : j < i := by rw [← v1]; exact (List.getElem?_eq_some_iff.1 hq).1
      rw [hV1, List.getElem?_take_of_lt hj] at hq
      exact F3.out.cell (VC.out j q hq) fun h => h⟩
    have N2 : Hid (∀ W, Fr Nob w3 W → 0 < n - (i + 1) → ∃ ad, A4 = some ad ∧ ∀ j u, (intsV V2)[j]? = some u → W.cell? (ad.add j) = some u) := Lib.hid fun W f hp => ⟨_, hA' (by omega), fun j u hu => by
      obtain ⟨q, hq, rfl⟩ := intsV_get hu
      rw [Addr.add_lit]
      rw [hV2, List.getElem?_drop] at hq
      exact f.cell (VC.out _ q hq) fun h => h⟩
    have M1 : Hid ((intsV V1).length = i * 1) := Lib.hid (by unfold intsV; rw [List.length_map, v1, Nat.mul_one])
    have M3 : Hid ((intsV V2).length = (n - (i + 1)) * 1) := Lib.hid (by unfold intsV; rw [List.length_map, v2, Nat.mul_one])
    have HKD : Hid (keysM (delP S1.m k) = K1 ++ K2 ∧ (delP S1.m k).map (·.2) = V1 ++ V2) := Lib.hid (by
      rw [HDD.out, hV1, hV2, HK12.out.1, HK12.out.2]
      unfold keysM
      rw [List.map_append, List.map_append, List.map_take, List.map_drop, List.map_take, List.map_drop]
      exact ⟨rfl, rfl⟩)
    have PK : Hid (∀ (v6 : Value) (w6 : World), w6.ownsRow w3.heap.size 3 1 v6 (i + (n - (i + 1))) (intsV V1 ++ intsV V2) → Fr Nob w3 w6 → RIn (w6.setCell ⟨t, 4, none⟩ v6) W t gn S1.now vo od next kv' v6 (delP S1.m k) ∧ Fr (RW W w) w (w6.setCell ⟨t, 4, none⟩ v6)) := Lib.hid fun v6 w6 o6 f6 => by
      have hWs := Nat.le_trans HW.out F2w.size
      refine ⟨RIn2.one ?_, F2w.rbs (f6.nob.setCell _ (fun _ => ⟨⟨_, _, s2.hd, .inl rfl⟩, s2.lo⟩) _)⟩
      rw [HKD.out.1, HKD.out.2]
      exact s2.vals f6.nob (by rw [intsV_app, List.length_append, v1, v2]; exact rows_base o6 hWs)
    have TC : Hid (∀ W, Fr Nob w3 W → W.cell? ⟨t, 4, none⟩ = some (.slice (some ⟨g4, 0, none⟩) n cap4) ∧ W.frozen? ⟨t, 4, none⟩ = false) := Lib.hid fun W f => ⟨f.cell d4 fun h => h, frozen_of_row W t 4 _ _ (f.heap s2.hd fun h => h)⟩
    clear hvs VC hV1 hV2 v1 v2 T2 hA' s2 F2w HKD HDD HK12 HI hcap
    go_upto_region 6 with fail
    go_cut [] (fun W3 => ∃ vv', Hid (RIn W3 W t gn S1.now vo od next kv' vv' (delP S1.m k) ∧ Fr (RW W w) w W3))
    case first =>
      clear OK HK HM HW R hn hK hV
      go_wp2_with fail
      go_region_law (first
        | (refine step_appG (o := ⟨some 42, _, _, _, _, _⟩) rfl (.tmp 35) (.tmp 41) 41 rfl 3 #[.int .i64 0] 1 8 Try.underlying41 int_info2 rfl (by omega) w3.heap.size (some ⟨w3.heap.size, 0, none⟩) 0 0 [] rfl own.out (some ⟨g4, 0, none⟩) i cap4 (intsV V1) rfl M1.out N1.out (intsV_one _) (by omega) (by omega) (by simp) ?_
           intro v5 w5 o5 f5 h5
           clear h5
           rw [Nat.zero_add, List.nil_append] at o5
           have F5 : Hid (Fr Nob w3 w5) := Lib.hid (F3.out.trans f5.out fun q hq e => by simp [Value.ownBlock] at e; omega)
           obtain ⟨a5, cap5, rfl, _⟩ := own_shape o5.out
           obtain ⟨p3, pz⟩ := TC.out w5 F5.out
           have n2 := N2.out w5 F5.out
           have NN2 := Lib.hid n2
           have hb5 := F5.out.size
           clear n2 f5)
        | (refine step_appG (o := ⟨some 50, _, _, _, _, _⟩) rfl (.tmp 42) (.tmp 49) 41 rfl 3 #[.int .i64 0] 1 8 Try.underlying41 int_info2 rfl (by omega) w3.heap.size a5 i cap5 (intsV V1) rfl o5.out A4 (n - (i + 1)) (cap4 - (i + 1)) (intsV V2) rfl M3.out NN2.out (intsV_one _) (by omega) (by omega) hb5 ?_
           intro v6 w6 o6 f6 h6
           clear h6
           have F6 : Hid (Fr Nob w3 w6) := Lib.hid (F5.out.trans f6.out fun q hq e => by have := (o5.out.lt q e).1; omega)
           obtain ⟨a6, cap6, rfl, _⟩ := own_shape o6.out
           obtain ⟨q3, qz⟩ := TC.out w6 F6.out
           clear f6))
      all_goals
        go_wp2_with fail
        go_meet
        exact ⟨_, Lib.hid (PK.out _ _ o6.out F6.out)⟩
    case rest =>
      obtain ⟨vv', hh⟩ := hcut
      obtain ⟨s4, F4w⟩ := hh.out
      have S4 := Lib.hid s4
      have F4 := Lib.hid F4w
      generalize wc = w4 at *
      clear hh s4 F4w F3 own a4 N1 N2 M1 M3 PK TC d4 T1 T2' hcap4
      have LN : Hid (∀ j, ((S1.now.take j).map (dropK k) ++ S1.now.drop j).length = S1.now.length) := Lib.hid fun j => step_len _ _ _
      have hnb := OK.out.big
      go_wp2_with fail
      go_loopw [6] (fun x wr => ∃ j : Nat, j ≤ S1.now.length ∧ x = .int .i64 j ∧ Hid (RIn wr W t gn ((S1.now.take j).map (dropK k) ++ S1.now.drop j) vo od next kv' vv' (delP S1.m k)) ∧ Hid (Fr (RW W w) w wr)) (fun x _ => S1.now.length - (intOf x).toNat)
      case atStart => exact ⟨0, Nat.zero_le _, rfl, S4, F4⟩
      case round =>
        obtain ⟨j, hj, rfl, sj, fj⟩ := hrel
        have hdj := sj.out.hd
        rw [LN.out] at hdj
        have e0 : wr.cell? ⟨t, 0, none⟩ = some (.slice (some ⟨gn, 0, none⟩) S1.now.length S1.now.length) := cell_of_row wr t 0 _ _ (0, 0) hdj
        by_cases hjl : j < S1.now.length
        · obtain ⟨l, hl⟩ : ∃ l, S1.now[j]? = some l := ⟨_, List.getElem?_eq_getElem hjl⟩
          have hll : l.length ≤ 1000001 := by
            have h1 := OK.out.len
            have h2 := chain_len (l := S1.now) (i := j)
            rw [List.getD_eq_getElem?_getD, hl] at h2
            replace h2 : l.length ≤ S1.now.flatten.length := h2
            have h3 := HM.out
            omega
          obtain ⟨hWg, cs, c, hcs, hr⟩ := sj.out.nws
          obtain ⟨u, hu, hin⟩ := hr j l (by rw [step_at _ _ hjl]; exact hl)
          have cb : wr.cell? ⟨gn, j, none⟩ = some u := by rw [cell_of_row wr gn j _ _ (0, 0) c]; exact hu
          have fz := frozen_of_row wr gn j _ _ c
          have DR : Hid (∀ W6, Fr Nob wr W6 → Calls Try.prog 38 #[u, .string k] W6 fun e w' => ∃ v, e = .returned v ∧ Hid (w'.ownsRow W6.heap.size 9 1 v (dropK k l).length (strsV (dropK k l))) ∧ Hid (Fr Nob W6 w')) := Lib.hid fun W6 f => rdrop_eq (hin.1.nob f) k hll
          have PK : Hid (∀ W6 w6 v6, Fr Nob wr W6 → Fr Nob W6 w6 → w6.ownsRow W6.heap.size 9 1 v6 (dropK k l).length (strsV (dropK k l)) → RIn (w6.setCell ⟨gn, j, none⟩ v6) W t gn ((S1.now.take (j + 1)).map (dropK k) ++ S1.now.drop (j + 1)) vo od next kv' vv' (delP S1.m k) ∧ Fr (RW W w) w (w6.setCell ⟨gn, j, none⟩ v6)) := Lib.hid fun W6 w6 v6 f f2 o => by
            have hW6 := Nat.le_trans (Nat.le_trans HW.out fj.out.size) f.size
            have fw := f.trans' f2
            rw [← step_set _ _ hjl hl]
            exact ⟨(sj.out.nob fw).setNow (by rw [LN.out]; exact hjl) (InR.new o hW6 fun q e => Nat.lt_of_lt_of_le (sj.out.ks.lt q e).2 f.size), fj.out.rbs (fw.nob.setCell _ (fun _ => ⟨⟨_, _, c, .inr (.inl rfl)⟩, hWg⟩) _)⟩
          have TC : Hid (∀ W6, Fr Nob wr W6 → W6.cell? ⟨t, 0, none⟩ = some (.slice (some ⟨gn, 0, none⟩) S1.now.length S1.now.length) ∧ W6.cell? ⟨gn, j, none⟩ = some u ∧ W6.frozen? ⟨gn, j, none⟩ = false) := Lib.hid fun W6 f => ⟨f.cell e0 fun h => h, f.cell cb fun h => h, frozen_of_row W6 gn j _ _ (f.heap c fun h => h)⟩
          have FD : Hid (Fr Nob wr wr.drew) := Lib.hid (Fr.refl Nob wr).drew
          obtain ⟨⟨A, cap, rfl, _⟩, _⟩ := hin
          have hjl1 : (j : Int) < (S1.now.length : Int) := by omega
          have hj0 : (0 : Int) ≤ (j : Int) := by omega
          have HJ := Lib.hid hjl
          clear hr hu hcs c hWg hl hdj sj fj hjl hll hj
          go_wp2_with fail
          go_region_law (first
            | (go_simp; go_at_call 38; (with_reducible refine (DR.out _ FD.out).mono ?_); rintro e w6 ⟨v6, rfl, o6, f6⟩; obtain ⟨p0, pb, pz⟩ := TC.out w6 (FD.out.trans' f6.out); obtain ⟨a6, cap6, rfl, _⟩ := own_shape o6.out))
          all_goals
            have pk := PK.out _ _ _ FD.out f6.out o6.out
            have P1 := Lib.hid pk.1
            have P2 := Lib.hid pk.2
            clear pk p0 pb pz e0 cb fz f6 o6
            go_wp2_with fail
            go_roundw
            case rel => exact ⟨j + 1, by have := HJ.out; omega, by go_num, P1, P2⟩
            case measure => have := HJ.out; simp [intOf]; omega
        · obtain rfl : j = S1.now.length := by omega
          have s5 := sj.out
          rw [List.take_length, List.drop_length, List.append_nil] at s5
          have S5 := Lib.hid s5
          clear s5 sj hdj S4 F4
          go_wp2_with fail
          have LO : Hid (∀ j, ((od.take j).map (dropK k) ++ od.drop j).length = od.length) := Lib.hid fun j => step_len _ _ _
          have hob := R.out.big
          go_loopw [7] (fun x wr => ∃ j : Nat, j ≤ od.length ∧ x = .int .i64 j ∧ Hid (RIn wr W t gn (S1.now.map (dropK k)) vo ((od.take j).map (dropK k) ++ od.drop j) next kv' vv' (delP S1.m k)) ∧ Hid (Fr (RW W w) w wr)) (fun x _ => od.length - (intOf x).toNat)
          case atStart => exact ⟨0, Nat.zero_le _, rfl, S5, fj⟩
          case round =>
            clear fj S5
            obtain ⟨j, hj, rfl, sj, fj⟩ := hrel
            obtain ⟨Ao, hAo⟩ := sj.out.ods.sl
            rw [LO.out] at hAo
            have e1 : wr.cell? ⟨t, 1, none⟩ = some (.slice Ao od.length od.length) := by rw [← hAo]; exact cell_of_row wr t 1 _ _ (0, 0) sj.out.hd
            by_cases hjl : j < od.length
            · obtain ⟨l, hl⟩ : ∃ l, od[j]? = some l := ⟨_, List.getElem?_eq_getElem hjl⟩
              have hll : l.length ≤ 1000001 := by
                by_cases hz : S1.left = 0
                · rw [R.out.dead hz l (List.mem_of_getElem? hl)]
                  exact Nat.zero_le _
                · have he := R.out.live (by omega)
                  have h1 := OK.out.len
                  have h2 := chain_len (l := S1.old) (i := j)
                  rw [← he, List.getD_eq_getElem?_getD, hl] at h2
                  replace h2 : l.length ≤ od.flatten.length := h2
                  have h3 := HM.out
                  rw [he] at h2
                  omega
              obtain ⟨go, hvo, hne, hro⟩ : ∃ go, vo = .slice (some ⟨go, 0, none⟩) od.length od.length ∧ go ≠ gn ∧ RowsAt wr W kv' go ((od.take j).map (dropK k) ++ od.drop j) := by
                rcases sj.out.ods with ⟨h, _⟩ | ⟨go, h1, h2, h3⟩
                · have := congrArg List.length h
                  rw [LO.out] at this
                  simp at this
                  rw [this] at hjl
                  simp at hjl
                · rw [LO.out] at h1
                  exact ⟨go, h1, h2, h3⟩
              obtain rfl : Ao = some ⟨go, 0, none⟩ := by
                rw [hvo] at hAo
                injection hAo with h _ _
                exact h.symm
              have sj2 : RIn wr W t gn (S1.now.map (dropK k)) (.slice (some ⟨go, 0, none⟩) ((od.take j).map (dropK k) ++ od.drop j).length ((od.take j).map (dropK k) ++ od.drop j).length) ((od.take j).map (dropK k) ++ od.drop j) next kv' vv' (delP S1.m k) := by
                rw [LO.out, ← hvo]
                exact sj.out
              obtain ⟨hWg, cs, c, hcs, hr⟩ := id hro
              obtain ⟨u, hu, hin⟩ := hr j l (by rw [step_at _ _ hjl]; exact hl)
              have cb : wr.cell? ⟨go, j, none⟩ = some u := by rw [cell_of_row wr go j _ _ (0, 0) c]; exact hu
              have fz := frozen_of_row wr go j _ _ c
              have DR : Hid (∀ W6, Fr Nob wr W6 → Calls Try.prog 38 #[u, .string k] W6 fun e w' => ∃ v, e = .returned v ∧ Hid (w'.ownsRow W6.heap.size 9 1 v (dropK k l).length (strsV (dropK k l))) ∧ Hid (Fr Nob W6 w')) := Lib.hid fun W6 f => rdrop_eq (hin.1.nob f) k hll
              have PK : Hid (∀ W6 w6 v6, Fr Nob wr W6 → Fr Nob W6 w6 → w6.ownsRow W6.heap.size 9 1 v6 (dropK k l).length (strsV (dropK k l)) → RIn (w6.setCell ⟨go, j, none⟩ v6) W t gn (S1.now.map (dropK k)) vo ((od.take (j + 1)).map (dropK k) ++ od.drop (j + 1)) next kv' vv' (delP S1.m k) ∧ Fr (RW W w) w (w6.setCell ⟨go, j, none⟩ v6)) := Lib.hid fun W6 w6 v6 f f2 o => by
                have hW6 := Nat.le_trans (Nat.le_trans HW.out fj.out.size) f.size
                have fw := f.trans' f2
                have x := (sj2.nob fw).setOld hne (hro.keep fw (fun h => h) fun _ _ _ _ h => h) (by rw [LO.out]; exact hjl) (InR.new o hW6 fun q e => Nat.lt_of_lt_of_le (sj.out.ks.lt q e).2 f.size)
                rw [step_set _ _ hjl hl, LO.out, ← hvo] at x
                exact ⟨x, fj.out.rbs (fw.nob.setCell _ (fun _ => ⟨⟨_, _, c, .inr (.inl rfl)⟩, hWg⟩) _)⟩
              have TC : Hid (∀ W6, Fr Nob wr W6 → W6.cell? ⟨t, 1, none⟩ = some (.slice (some ⟨go, 0, none⟩) od.length od.length) ∧ W6.cell? ⟨go, j, none⟩ = some u ∧ W6.frozen? ⟨go, j, none⟩ = false) := Lib.hid fun W6 f => ⟨f.cell e1 fun h => h, f.cell cb fun h => h, frozen_of_row W6 go j _ _ (f.heap c fun h => h)⟩
              have FD : Hid (Fr Nob wr wr.drew) := Lib.hid (Fr.refl Nob wr).drew
              obtain ⟨⟨A, cap, rfl, _⟩, _⟩ := hin
              have hjl1 : (j : Int) < (od.length : Int) := by omega
              have hj0 : (0 : Int) ≤ (j : Int) := by omega
              have HJ := Lib.hid hjl
              clear hr hu hcs c hWg hl sj fj hjl hll hj hro sj2 hvo hAo hne
              go_wp2_with fail
              go_region_law (first
                | (go_simp; go_at_call 38; (with_reducible refine (DR.out _ FD.out).mono ?_); rintro e w6 ⟨v6, rfl, o6, f6⟩; obtain ⟨p0, pb, pz⟩ := TC.out w6 (FD.out.trans' f6.out); obtain ⟨a6, cap6, rfl, _⟩ := own_shape o6.out))
              all_goals
                have pk := PK.out _ _ _ FD.out f6.out o6.out
                have P1 := Lib.hid pk.1
                have P2 := Lib.hid pk.2
                clear pk p0 pb pz e1 cb fz f6 o6
                go_wp2_with fail
                go_roundw
                case rel => exact ⟨j + 1, by have := HJ.out; omega, by go_num, P1, P2⟩
                case measure => have := HJ.out; simp [intOf]; omega
            · obtain rfl : j = od.length := by omega
              have s5 := sj.out
              rw [List.take_length, List.drop_length, List.append_nil] at s5
              have S5 := Lib.hid s5
              have RR := Lib.hid (R.out.del (S' := { S1 with now := S1.now.map (dropK k), old := S1.old.map (dropK k), m := delP S1.m k }) k rfl rfl)
              clear s5 sj hAo
              go_wp2_with fail
              go_ret
              exact ⟨rfl, Lib.hid ⟨gn, vo, _, next, kv', vv', S5.out, RR.out⟩, fj⟩
end
end Go.Proofs.Ytefjcjmdmnfbhaa
