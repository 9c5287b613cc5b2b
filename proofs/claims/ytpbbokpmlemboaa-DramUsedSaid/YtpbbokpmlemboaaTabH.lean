/-
  The table: contract of Set of a new key.
-/
import Derived.Test.YtpbbokpmlemboaaTabG
namespace Go.Proofs.Ytpbbokpmlemboaa.Tb
open Go.RowKit

section
variable {w w' : World} {W t gn go : Nat} {K : Nat → Prop} {T : Tb} {S : KT}

/-- The table behind the put of an entry that was just laid, and one more counted. -/
theorem TabAt.put2 (h : TabAt w W t gn go T) (F : T.Fit) (k : ByteArray) (v : Int) (w3 : World) (h3 : w3 = (w.alloc (.cells #[.string k, .int .i64 v, hookV (T.chain k)] 106)).setCell (T.slotA gn go k) (.pointer (some ⟨w.heap.size, 0, none⟩))) :
    w3.cell? ⟨t, 3, none⟩ = some (.int .i64 T.n) ∧ w3.frozen? ⟨t, 3, none⟩ = false ∧ TabAt (w3.setCell ⟨t, 3, none⟩ (.int .i64 ((T.n : Int) + 1))) W t gn go ⟨(T.put ⟨w.heap.size, k, v⟩).now, (T.put ⟨w.heap.size, k, v⟩).old, T.left, T.n + 1⟩ ∧
      Fr (fun k => k = t ∨ BOwn gn go T.now T.old k) w (w3.setCell ⟨t, 3, none⟩ (.int .i64 ((T.n : Int) + 1))) ∧
      ∀ x, BOwn gn go (T.put ⟨w.heap.size, k, v⟩).now (T.put ⟨w.heap.size, k, v⟩).old x → BOwn gn go T.now T.old x ∨ x = w.heap.size := by
  obtain ⟨B, hh, f⟩ := h.put F k v
  rw [← h3] at B hh f
  have hd := hh.trans h.hd
  obtain ⟨pl, pn, pln, plo⟩ := T.put_left ⟨w.heap.size, k, v⟩
  have f4 : Fr (One t) w3 (w3.setCell ⟨t, 3, none⟩ (.int .i64 ((T.n : Int) + 1))) := (Fr.refl (One t) w3).set1 _
  have hov : oldV go (T.put ⟨w.heap.size, k, v⟩).old = oldV go T.old := by
    revert plo
    generalize (T.put ⟨w.heap.size, k, v⟩).old = o
    intro plo
    cases o with
    | nil =>
      cases ho : T.old with
      | nil => rfl
      | cons c l => rw [ho] at plo; simp at plo
    | cons d l' =>
      cases ho : T.old with
      | nil => rw [ho] at plo; simp at plo
      | cons c l => rw [ho] at plo; show Value.slice _ _ _ = Value.slice _ _ _; rw [plo]
  refine ⟨cell_of_row w3 t 3 _ _ (0, 0) hd, frozen_of_row w3 t 3 _ _ hd, ⟨?_, B.keep f4 (B.top hd), h.lo⟩, f.trans f4 fun x _ e => .inl e, ?_⟩
  · show (w3.setCell ⟨t, 3, none⟩ (.int .i64 ((T.n : Int) + 1))).heap[t]? = some (.cells #[.slice (some ⟨gn, 0, none⟩) (T.put ⟨w.heap.size, k, v⟩).now.length (T.put ⟨w.heap.size, k, v⟩).now.length, oldV go (T.put ⟨w.heap.size, k, v⟩).old, .int .i64 T.left, .int .i64 ((T.n + 1 : Nat) : Int)] 93 (0, 0))
    rw [pln, hov]
    have := heap_setCell_same w3 t 3 _ _ (.int .i64 ((T.n : Int) + 1)) hd
    simpa using this
  · intro x hx
    rcases hx with hx | ⟨ho, hx⟩ | hx
    · exact .inl (.inl hx)
    · exact .inl (.inr (.inl ⟨fun e => by rw [e] at plo; exact ho (List.eq_nil_of_length_eq_zero plo), hx⟩))
    · obtain ⟨e, he, rfl⟩ := List.mem_map.1 hx
      have he2 : e = ⟨w.heap.size, k, v⟩ ∨ e ∈ T.now.flatten ++ T.old.flatten := by
        unfold Tb.put at he
        split at he
        next hin =>
          have hop : 0 < T.old.length := by have := F.le; have := hin.1; omega
          rcases List.mem_append.1 he with he | he
          · exact .inr (List.mem_append.2 (.inl he))
          · rcases List.mem_cons.1 ((pushE_perm _ hop).mem_iff.1 he) with he | he
            · exact .inl he
            · exact .inr (List.mem_append.2 (.inr he))
        · rcases List.mem_append.1 he with he | he
          · rcases List.mem_cons.1 ((pushE_perm _ F.pos).mem_iff.1 he) with he | he
            · exact .inl he
            · exact .inr (List.mem_append.2 (.inl he))
          · exact .inr (List.mem_append.2 (.inr he))
      rcases he2 with rfl | he
      · exact .inr rfl
      · exact .inl (.inr (.inr (List.mem_map.2 ⟨e, he, rfl⟩)))

set_option maxHeartbeats 8000000 in
set_option maxRecDepth 100000 in
theorem set_new (s : TabIn w W t K S) (ok : S.Ok) (k : ByteArray) (v : Int) (hs : k.size < 9223372036854775808) (hk : k ∉ keysM S.m) (hm : S.m.length ≤ 1000000) :
    Calls Try.prog 29 #[.pointer (some ⟨t, 0, none⟩), .string k, .int .i64 v] w fun e w' => e = .returned (.bool true) ∧ TabTo w W t K w' (setK S k v) := by
  have HM := Lib.hid (move_eq s ok)
  have hse : setK S k v = growK { putK (moveK S) k with m := (moveK S).m ++ [(k, v)] } := by unfold setK; rw [if_neg (by rw [moveK_m]; exact hk)]
  rw [hse]
  obtain ⟨S2, hS2⟩ : ∃ S2 : KT, S2 = { putK (moveK S) k with m := (moveK S).m ++ [(k, v)] } := ⟨_, rfl⟩
  rw [← hS2]
  have HS2 := Lib.hid hS2
  clear hse hS2
  go_enter Try.func29, Try.ntmps29
  go_wp2_with fail
  refine HM.out.mono ?_
  rintro e w1 ⟨rfl, K1, s1, f1, n1⟩
  have ok1 := moveK_ok ok
  have hk1 : k ∉ keysM (moveK S).m := by rw [moveK_m]; exact hk
  have hm1 : (moveK S).m.length ≤ 1000000 := by rw [moveK_m]; exact hm
  clear HM ok hk hm
  generalize moveK S = S1 at *
  obtain ⟨gn, go, T, h, i, hK⟩ := s1
  have h1 : sufE k (T.chain k) = [] := by
    rcases i.found ok1 k with ⟨h1, _⟩ | ⟨e, r, _, _, _, _, _, _, h7, _⟩
    · exact h1
    · exact absurd h7 hk1
  obtain ⟨p1, p2, p3⟩ := h.slot_cell (i.fit ok1) k
  rw [← pre_suf k (T.chain k)] at p1 p3
  obtain ⟨q1, q2⟩ := hook_cell p3 p1 p2
  rw [h1] at q1
  have q1' : w1.cell? (hookA (T.slotA gn go k) (preE k (T.chain k))) = some (.pointer none) := q1
  have HF := Lib.hid (find_eq h (i.fit ok1) k hs)
  have F := Lib.hid (i.fit ok1)
  have I := Lib.hid i
  have H := Lib.hid h
  have HK := Lib.hid hK
  have N1 := Lib.hid n1
  have F1 := Lib.hid f1
  have OK := Lib.hid ok1
  have HK1 := Lib.hid hk1
  clear q1 p1 p2 p3 h1 hK i h ok1 n1 f1 hk1 s q2
  generalize hookA (T.slotA gn go k) (preE k (T.chain k)) = A at *
  go_wp2_with fail
  refine HF.out.mono ?_
  rintro e w2 ⟨rfl, m, rfl⟩
  go_wp2_with fail
  have h2 := H.out.keep ((Fr.refl Nob w1).drewN m) (fun h => h) (fun _ _ h => h)
  refine (slot_eq h2 F.out k hs).mono ?_
  rintro e w2 ⟨rfl, m', rfl⟩
  have fq : Hid (Fr Nob w1 ((w1.drewN m).drewN m')) := Lib.hid (((Fr.refl Nob w1).drewN m).drewN m')
  have h3 := H.out.keep fq.out (fun h => h) (fun _ _ h => h)
  clear q1' h2 HF
  generalize (w1.drewN m).drewN m' = w2 at *
  obtain ⟨p1, p2, p3⟩ := h3.slot_cell F.out k
  obtain ⟨a, ha⟩ := hookV_form (T.chain k)
  have P2 := h3.put2 F.out k v _ rfl
  rw [ha] at p1 P2
  clear p3
  obtain ⟨c1, c2, T3, f3, n3⟩ := P2
  have X3 := Lib.hid T3
  have G3 := Lib.hid f3
  have N3 := Lib.hid n3
  have H3 := Lib.hid h3
  have hmn : T.n ≤ 1000000 := by rw [I.out.n]; exact hm1
  clear T3 f3 n3 h3 ha
  generalize T.slotA gn go k = B at *
  have fa : Fr Nob w2 (w2.alloc (.cells #[.string k, .int .i64 v, .pointer a] 106)) := (Fr.refl Nob w2).alloc _
  have b1 := fa.cell p1 fun h => h
  have b2 := (fa.frozen (World.block_lt_of_cell? w2 B p1) fun h => h).trans p2
  clear fa
  go_wp2_with fail
  clear b1 b2 c1 c2 p1 p2
  obtain ⟨T2, hT2⟩ : ∃ T2 : Tb, T2 = ⟨(T.put ⟨w2.heap.size, k, v⟩).now, (T.put ⟨w2.heap.size, k, v⟩).old, T.left, T.n + 1⟩ := ⟨_, rfl⟩
  have I2 : Hid (T2.Is S2) := by rw [hT2, HS2.out]; exact Lib.hid (put_is I.out ⟨w2.heap.size, k, v⟩)
  have OK2 : Hid S2.Ok := by rw [HS2.out]; exact Lib.hid (putK_ok OK.out v HK1.out hs)
  have hm2 : S2.m.length ≤ 1000001 := by rw [HS2.out]; show (S1.m ++ [(k, v)]).length ≤ _; rw [List.length_append]; simp; exact hm1
  have N4 : Hid (∀ x, x = t ∨ BOwn gn go T2.now T2.old x → K x ∨ w.heap.size ≤ x) := by
    rw [hT2]
    refine Lib.hid fun x hx => ?_
    rcases hx with hx | hx
    · exact N1.out x ((HK.out x).2 (.inl hx))
    · rcases N3.out x hx with hx | hx
      · exact N1.out x ((HK.out x).2 (.inr hx))
      · have := fq.out.size
        have := F1.out.size
        exact .inr (by omega)
  have G4 := Lib.hid ((F1.out.trans' fq.out.nob).trans G3.out fun x hx h => by
    rcases N1.out x ((HK.out x).2 h) with h | h
    · exact h
    · omega)
  have G5 : TabAt ((((w2.alloc (.cells #[.string k, .int .i64 v, .pointer a] 106)).setCell B (.pointer (some ⟨w2.heap.size, 0, none⟩))).setCell ⟨t, 3, none⟩ (.int .i64 ((T.n : Int) + 1)))) W t gn go T2 := by rw [hT2]; exact X3.out
  clear G3 N3 H3 HK1 F1 N1 HK H I fq OK F hm1 X3 hmn HS2 hT2
  generalize ((w2.alloc (.cells #[.string k, .int .i64 v, .pointer a] 106)).setCell B (.pointer (some ⟨w2.heap.size, 0, none⟩))).setCell ⟨t, 3, none⟩ (.int .i64 ((T.n : Int) + 1)) = w4 at *
  obtain ⟨d0, d1, d2, d3, d4⟩ := G5.cells
  have F2 := I2.out.fit OK2.out
  have hbig := F2.big
  have hpos := F2.pos
  have hn2 : T2.n = S2.m.length := I2.out.n
  have hmn : T2.n ≤ 1000001 := by omega
  have hgr : growK S2 = if 3 * T2.now.length < 2 * T2.n ∧ T2.left = 0 ∧ T2.now.length < 65536 then { S2 with old := S2.now, left := S2.now.length, now := List.replicate (2 * S2.now.length) [] } else S2 := by
    unfold growK
    rw [I2.out.nowL, I2.out.n, I2.out.left]
  have HGR := Lib.hid hgr
  have X5 := Lib.hid G5
  clear hgr hn2 F2 G5 hm2
  obtain ⟨nn, hnn⟩ : ∃ nn, nn = T2.now.length := ⟨_, rfl⟩
  obtain ⟨lf, hlf⟩ : ∃ lf, lf = T2.left := ⟨_, rfl⟩
  obtain ⟨n2, hn2⟩ : ∃ n2, n2 = T2.n := ⟨_, rfl⟩
  rw [← hnn] at d0 hbig hpos HGR
  rw [← hlf] at d2 HGR
  rw [← hn2] at d3 hmn HGR
  have HNN := Lib.hid hnn
  have HLF := Lib.hid hlf
  have HN2 := Lib.hid hn2
  clear hnn hlf hn2
  by_cases hc1 : 3 * nn < 2 * n2
  · by_cases hc2 : lf = 0
    · subst hc2
      by_cases hc3 : nn < 65536
      · have k1 : 3 * (nn : Int) < 2 * (n2 : Int) := by omega
        have k3 : (nn : Int) < 65536 := by omega
        rw [if_pos ⟨hc1, rfl, hc3⟩] at HGR
        go_quiet (fail)
        go_wp2_with fail
        have X6 := Lib.hid (X5.out.keep ((Fr.refl Nob w4).drewN nq) (fun h => h) fun _ _ h => h)
        have G6 := Lib.hid (G4.out.trans' ((Fr.refl Nob w4).drewN nq).nob)
        clear d0 d1 d2 d3 d4 X5 G4
        generalize w4.drewN nq = w5 at *
        obtain ⟨d0, d1, d2, d3, d4⟩ := X6.out.cells
        rw [← HNN.out] at d0
        have hnn0 : T2.old = [] := by
          have h1 := OK2.out.nil (by rw [← I2.out.left]; exact HLF.out.symm)
          have h2 := I2.out.oldL
          rw [h1] at h2
          exact List.eq_nil_of_length_eq_zero h2
        have f6 : Fr (One t) w5 ((w5.setCell ⟨t, 1, none⟩ (.slice (some ⟨gn, 0, none⟩) nn nn)).setCell ⟨t, 2, none⟩ (.int .i64 nn)).drew := (((Fr.refl (One t) w5).set1 _).set1 _).drew
        have H6 : Hid (((w5.setCell ⟨t, 1, none⟩ (.slice (some ⟨gn, 0, none⟩) nn nn)).setCell ⟨t, 2, none⟩ (.int .i64 nn)).drew.heap[t]? = some (.cells #[.slice (some ⟨gn, 0, none⟩) nn nn, .slice (some ⟨gn, 0, none⟩) nn nn, .int .i64 nn, .int .i64 n2] 93 (0, 0))) := by
          have := heap_setCell_same _ t 2 _ _ (.int .i64 nn) (heap_setCell_same w5 t 1 _ _ (.slice (some ⟨gn, 0, none⟩) nn nn) X6.out.hd)
          rw [← HNN.out, ← HN2.out] at this
          simp at this
          exact Lib.hid this
        have B6 := X6.out.bd.keep f6 (X6.out.bd.top X6.out.hd)
        rw [hnn0] at B6
        have BB := Lib.hid B6
        have F6 := Lib.hid (G6.out.trans f6 fun x hx e => by
          rcases N4.out x (.inl e) with h | h
          · exact h
          · omega)
        have N6 : Hid (∀ x, x = t ∨ BOwn gn go T2.now [] x → K x ∨ w.heap.size ≤ x) := by rw [← hnn0]; exact N4
        have lo := Lib.hid X6.out.lo
        clear hnn0 f6 B6 X6 G6 N4
        go_region
        clear d0 d1 d2 d3 d4
        generalize ((w5.setCell ⟨t, 1, none⟩ (.slice (some ⟨gn, 0, none⟩) nn nn)).setCell ⟨t, 2, none⟩ (.int .i64 nn)).drew = w6 at *
        have d0 : w6.cell? ⟨t, 0, none⟩ = some (.slice (some ⟨gn, 0, none⟩) nn nn) := cell_of_row w6 t 0 _ _ (0, 0) H6.out
        have d1 : w6.cell? ⟨t, 1, none⟩ = some (.slice (some ⟨gn, 0, none⟩) nn nn) := cell_of_row w6 t 1 _ _ (0, 0) H6.out
        have d4 := frozen_of_row w6 t 0 _ _ H6.out
        go_wp2_with (with_reducible refine wpList_make_all rfl _ _ 91 rfl 102 #[.pointer none] 1 8 Try.underlying91 ptr_info .i64 .i64 (2 * nn) rfl rfl (by omega) (by omega) ?_)
        intro cs hcs
        have hcs2 := hcs.out.trans (made_ptrs (2 * nn))
        have fa : Fr Nob w6 (w6.alloc (.cells cs 102)) := (Fr.refl Nob w6).alloc _
        have H7 := Lib.hid (fa.heap H6.out fun h => h)
        have hgx : (w6.alloc (.cells cs 102)).heap[w6.heap.size]? = some (.cells (List.replicate (2 * nn) (Value.pointer none)).toArray 102 (0, 0)) := by rw [heap_alloc_new, hcs2]
        have hgn : gn ≠ w6.heap.size := fun e => by have := BB.out.lt (.inl rfl); omega
        have hWx : W ≤ w6.heap.size := by have := lo.out; have := lt_of_block H6.out; omega
        have B7 := Lib.hid (BB.out.keep fa fun _ _ h => h)
        have F7 := Lib.hid (F6.out.trans' fa.nob)
        have hx0 := F6.out.size
        clear d0 d1 d4 fa hcs hcs2 H6 BB F6
        generalize w6.heap.size = g at *
        generalize w6.alloc (.cells cs 102) = w7 at *
        have d0 : w7.cell? ⟨t, 0, none⟩ = some (.slice (some ⟨gn, 0, none⟩) nn nn) := cell_of_row w7 t 0 _ _ (0, 0) H7.out
        have d4 := frozen_of_row w7 t 0 _ _ H7.out
        have f8 : Fr (One t) w7 (w7.setCell ⟨t, 0, none⟩ (.slice (some ⟨g, 0, none⟩) (2 * nn) (2 * nn))) := (Fr.refl (One t) w7).set1 _
        have hr : (w7.setCell ⟨t, 0, none⟩ (.slice (some ⟨g, 0, none⟩) (2 * nn) (2 * nn))).ownsRow W 102 1 (.slice (some ⟨g, 0, none⟩) (2 * nn) (2 * nn)) (2 * nn) (List.replicate (2 * nn) (.pointer none)) := by
          refine ⟨by rw [List.length_replicate, Nat.mul_one], .inr ⟨g, 2 * nn, _, rfl, hWx, f8.heap hgx (heap_type hgx H7.out (by decide)), Nat.le_refl _, by have : maxLen = 9223372036854775807 := rfl; omega, by simp, by simp⟩⟩
        have B8 := Lib.hid (B7.out.grown f8 (B7.out.top H7.out) hgn hr)
        have H8 : Hid ((w7.setCell ⟨t, 0, none⟩ (.slice (some ⟨g, 0, none⟩) (2 * nn) (2 * nn))).heap[t]? = some (.cells #[.slice (some ⟨g, 0, none⟩) (2 * nn) (2 * nn), .slice (some ⟨gn, 0, none⟩) nn nn, .int .i64 nn, .int .i64 n2] 93 (0, 0))) := by
          have := heap_setCell_same w7 t 0 _ _ (.slice (some ⟨g, 0, none⟩) (2 * nn) (2 * nn)) H7.out
          exact Lib.hid (by simpa using this)
        have F8 := Lib.hid (F7.out.trans f8 fun x hx e => by
          rcases N6.out x (.inl e) with h | h
          · exact h
          · omega)
        clear f8 hr hgx H7 B7 F7
        go_wp2_with fail
        go_ret
        refine ⟨rfl, ?_⟩
        rw [HGR.out]
        have hne : T2.now ≠ [] := by intro e; rw [HNN.out, e] at hpos; exact absurd hpos (Nat.lt_irrefl _)
        refine ⟨_, ⟨g, gn, ⟨List.replicate (2 * nn) [], T2.now, nn, n2⟩, ⟨?_, B8.out, lo.out⟩, ⟨?_, I2.out.now, ?_, ?_, ?_⟩, fun x => Iff.rfl⟩, F8.out, ?_⟩
        · show (w7.setCell ⟨t, 0, none⟩ (.slice (some ⟨g, 0, none⟩) (2 * nn) (2 * nn))).heap[t]? = some (.cells #[.slice (some ⟨g, 0, none⟩) (List.replicate (2 * nn) ([] : List En)).length (List.replicate (2 * nn) ([] : List En)).length, oldV gn T2.now, .int .i64 nn, .int .i64 n2] 93 (0, 0))
          rw [List.length_replicate, oldV_of hne, ← HNN.out]
          exact H8.out
        · show (List.replicate (2 * nn) ([] : List En)).map keysE = List.replicate (2 * S2.now.length) []
          rw [List.map_replicate, HNN.out, I2.out.nowL]
          rfl
        · show nn = S2.now.length
          rw [HNN.out, I2.out.nowL]
        · show n2 = S2.m.length
          rw [HN2.out, I2.out.n]
        · intro e he
          refine I2.out.vals e ?_
          have he : e ∈ (List.replicate (2 * nn) ([] : List En)).flatten ++ T2.now.flatten := he
          rw [replicate_flatten] at he
          exact List.mem_append.2 (.inl he)
        · rintro x (hx | hx | ⟨_, hx⟩ | hx)
          · exact N6.out x (.inl hx)
          · exact .inr (by omega)
          · exact N6.out x (.inr (.inl hx))
          · refine N6.out x (.inr (.inr (.inr ?_)))
            have hx : x ∈ bOf ((List.replicate (2 * nn) ([] : List En)).flatten ++ T2.now.flatten) := hx
            rw [replicate_flatten] at hx
            rw [List.flatten_nil, List.append_nil]
            exact hx
      · have k1 : 3 * (nn : Int) < 2 * (n2 : Int) := by omega
        have k3 : decide ((nn : Int) < 65536) = false := decide_eq_false (by omega)
        rw [if_neg (fun h => hc3 h.2.2)] at HGR
        go_quiet (fail)
        go_wp2_with fail
        go_ret
        rw [HGR.out]
        exact ⟨rfl, _, ⟨gn, go, T2, X5.out.keep ((Fr.refl Nob w4).drewN nq) (fun h => h) (fun _ _ h => h), I2.out, fun x => Iff.rfl⟩, G4.out.trans' ((Fr.refl Nob w4).drewN nq).nob, N4.out⟩
    · have k1 : 3 * (nn : Int) < 2 * (n2 : Int) := by omega
      have k2 : ((lf : Int) == 0) = false := beq_eq_false_iff_ne.2 (by omega)
      rw [if_neg (fun h => hc2 h.2.1)] at HGR
      go_quiet (fail)
      go_wp2_with fail
      go_ret
      rw [HGR.out]
      exact ⟨rfl, _, ⟨gn, go, T2, X5.out.keep ((Fr.refl Nob w4).drewN nq) (fun h => h) (fun _ _ h => h), I2.out, fun x => Iff.rfl⟩, G4.out.trans' ((Fr.refl Nob w4).drewN nq).nob, N4.out⟩
  · have k1 : decide (3 * (nn : Int) < 2 * (n2 : Int)) = false := decide_eq_false (by omega)
    rw [if_neg (fun h => hc1 h.1)] at HGR
    go_quiet (fail)
    go_wp2_with fail
    go_ret
    rw [HGR.out]
    exact ⟨rfl, _, ⟨gn, go, T2, X5.out.keep ((Fr.refl Nob w4).drewN nq) (fun h => h) (fun _ _ h => h), I2.out, fun x => Iff.rfl⟩, G4.out.trans' ((Fr.refl Nob w4).drewN nq).nob, N4.out⟩

/-- Set, of any key. -/
theorem set_eq (s : TabIn w W t K S) (ok : S.Ok) (k : ByteArray) (v : Int) (hs : k.size < 9223372036854775808) (hm : S.m.length ≤ 1000000) :
    Calls Try.prog 29 #[.pointer (some ⟨t, 0, none⟩), .string k, .int .i64 v] w fun e w' => e = .returned (.bool (decide (k ∉ keysM S.m))) ∧ TabTo w W t K w' (setK S k v) := by
  by_cases hk : k ∈ keysM S.m
  · rw [decide_eq_false (fun h => h hk)]
    exact set_old s ok k v hs hk
  · rw [decide_eq_true hk]
    exact set_new s ok k v hs hk hm
end
end Go.Proofs.Ytpbbokpmlemboaa.Tb
