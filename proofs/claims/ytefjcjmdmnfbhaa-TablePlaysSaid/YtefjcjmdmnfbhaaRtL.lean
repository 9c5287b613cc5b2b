/-
  The reference's table: contract of Sorted.
-/
import Derived.Test.YtefjcjmdmnfbhaaRtK
namespace Go.Proofs.Ytefjcjmdmnfbhaa
open Go.RowKit

theorem own_zero {w : World} {base n : Nat} {e : TypeId} {size cap : Nat} {A : Option Addr} {xs : List Value} (h : w.ownsRow base e size (.slice A n cap) n xs) : A = none ∧ cap = 0 ∨ ∃ g, A = some ⟨g, 0, none⟩ := by
  rcases h.2 with ⟨h, _⟩ | ⟨g, cap', cur, h, _⟩
  · injection h with h1 h2 h3
    exact .inl ⟨h1, h3⟩
  · injection h with h1 h2 h3
    exact .inr ⟨g, h1⟩
theorem slice_fromA (A : Option Addr) (n cap i : Nat) (h : i ≤ n) (hA : A = none ∧ cap = 0 ∨ ∃ g, A = some ⟨g, 0, none⟩) : ∃ A', (∀ w, (Instr.slice 29 (.slice A n cap) (some (.int .i64 (i : Int))) none none).run Try.prog w = .ok (.slice A' (n - i) (cap - i)) w) ∧ (∀ g, A = some ⟨g, 0, none⟩ → i < cap → A' = some ⟨g, i, none⟩) := by
  rcases hA with ⟨rfl, rfl⟩ | ⟨g, rfl⟩
  · refine ⟨none, fun w => ?_, fun g h => by cases h⟩
    have ht' : Try.prog.underlying 29 = some (.slice (Try.prog.elem 29)) := by simp [Program.elem, Try.underlying29]
    have he : Try.prog.elem 29 = 9 := by simp [Program.elem, Try.underlying29]
    rw [run_slice_l w 29 _ _ _ ht' .i64 _ (by omega) (by omega), he, Try.sizeOf9]
    simp [Result.andThen, sliced]
  · obtain ⟨A', h1, h2⟩ := slice_fromS g n cap i h
    refine ⟨A', h1, fun g' e hc => ?_⟩
    injection e with e
    injection e with e
    subst e
    exact h2 hc
theorem strsV_get2 {K : List ByteArray} {j : Nat} {u : Value} (h : (strsV K)[j]? = some u) : ∃ k, K[j]? = some k ∧ u = .string k := by
  unfold strsV at h
  rw [List.getElem?_map] at h
  obtain ⟨k, hk, rfl⟩ := Option.map_eq_some_iff.1 h
  exact ⟨k, hk, rfl⟩
theorem news_one {w : World} {b : Nat} {x : Value} {t : TypeId} (h : w.heap[b]? = some (.cells #[x] t (0, 0))) : ∀ i u, [x][i]? = some u → w.cell? ((⟨b, 0, none⟩ : Addr).add i) = some u := fun i u hu => by
  rw [Addr.add_lit, Nat.zero_add, cell_of_row _ b i _ _ (0, 0) h, ← Array.getElem?_toList]
  exact hu

section
variable {w : World} {W t gn next : Nat} {nw od : List (List ByteArray)} {vo kv vv : Value} {m : List (ByteArray × Int)}
set_option maxHeartbeats 16000000 in
set_option maxRecDepth 100000 in
theorem rsorted_eq (s : RIn w W t gn nw vo od next kv vv m) (hm : m.length ≤ 1000000) :
    Calls Try.prog 26 #[.pointer (some ⟨t, 0, none⟩)] w fun e w' => ∃ v L, e = .returned v ∧ Hid (RdS w' v L) ∧ Hid (L.Pairwise leK) ∧ Hid (L.Perm (keysM m)) ∧ Hid (Fr Nob w w') := by
  have d3 : w.cell? ⟨t, 3, none⟩ = some kv := cell_of_row w t 3 _ _ (0, 0) s.hd
  obtain ⟨A3, cap3, rfl, _⟩ := own_shape s.ks
  have D3 := Lib.hid d3
  have KS := Lib.hid s.ks
  obtain ⟨n, hn⟩ : ∃ n, n = m.length := ⟨_, rfl⟩
  rw [← hn] at D3 KS hm
  have hK : Hid ((keysM m).length = n) := Lib.hid (by rw [keysM_len, hn])
  clear s d3 hn
  go_enter Try.func26, Try.ntmps26
  go_wp2_with fail
  go_loopw [3, 4] (fun lv x wr => ∃ (j : Nat) (L : List ByteArray), j ≤ n ∧ x = .int .i64 j ∧ Hid (wr.ownsRow w.heap.size 9 1 lv j (strsV L)) ∧ Hid (L.Pairwise leK) ∧ Hid (L.Perm ((keysM m).take j)) ∧ Hid (Fr Nob w wr)) (fun _ x _ => n - (intOf x).toNat)
  case atStart => exact ⟨0, [], Nat.zero_le _, rfl, Lib.hid (World.ownsRow_nil _ _ _ _), Lib.hid List.Pairwise.nil, Lib.hid (List.Perm.refl _), Lib.hid (Fr.refl _ _)⟩
  case round =>
    obtain ⟨j, L, hj, rfl, oj, sj, pj, fj⟩ := hrel
    have d3 := fj.out.cell D3.out fun h => h
    by_cases hjl : j < n
    · obtain ⟨x, hx⟩ : ∃ x, (keysM m)[j]? = some x := ⟨_, List.getElem?_eq_getElem (by rw [hK.out]; exact hjl)⟩
      obtain ⟨g3, cap3', he⟩ := own_nil KS.out (by omega)
      injection he with h1 h2 h3
      subst h1
      have cx : wr.cell? ⟨g3, j, none⟩ = some (.string x) := fj.out.cell (by
        have := KS.out.cells (g := g3) rfl j (.string x) (by unfold strsV; rw [List.getElem?_map, hx]; rfl)
        rw [Addr.add_lit, Nat.zero_add] at this
        exact this) fun h => h
      obtain ⟨al, cl, rfl, hcl, _⟩ := own_shape oj.out
      have hjl1 : (j : Int) < (n : Int) := by omega
      have hj0 : (0 : Int) ≤ (j : Int) := by omega
      have hLl : L.length = j := by simpa [strsV] using oj.out.1
      have HX := Lib.hid hx
      have HJ := Lib.hid hjl
      have HL := Lib.hid hLl
      clear h2 h3 hx
      generalize wr = wo at *
      go_upto_block 2 with fail
      go_cut [5] (fun k W1 => ∃ p : Nat, k = .int .i64 p ∧ p ≤ j ∧ Hid (∀ q y, q < p → L[q]? = some y → Op.bytesLess y.toList x.toList = true) ∧ Hid (∀ y, L[p]? = some y → Op.bytesLess y.toList x.toList = false) ∧ Hid (Fr Nob wo W1))
      case first =>
        go_wp2_with fail
        go_loopw [5] (fun k W1 => ∃ p : Nat, k = .int .i64 p ∧ p ≤ j ∧ Hid (∀ q y, q < p → L[q]? = some y → Op.bytesLess y.toList x.toList = true) ∧ Hid (Fr Nob wo W1)) (fun k _ => j - (intOf k).toNat)
        case atStart => exact ⟨0, rfl, Nat.zero_le _, Lib.hid fun q _ hq => absurd hq (Nat.not_lt_zero _), Lib.hid (Fr.refl _ _)⟩
        case round =>
          obtain ⟨p, rfl, hp, hless, f1⟩ := hrel
          have d31 := f1.out.cell d3 fun h => h
          have cx1 := f1.out.cell cx fun h => h
          by_cases hpj : p < j
          · obtain ⟨y, hy⟩ : ∃ y, L[p]? = some y := ⟨_, List.getElem?_eq_getElem (by rw [hLl]; exact hpj)⟩
            obtain ⟨gl, cl', he⟩ := own_nil oj.out (by omega)
            injection he with h1 h2 h3
            subst h1
            have cy : wr.cell? ⟨gl, p, none⟩ = some (.string y) := f1.out.cell (by
              have := oj.out.cells (g := gl) rfl p (.string y) (by unfold strsV; rw [List.getElem?_map, hy]; rfl)
              rw [Addr.add_lit, Nat.zero_add] at this
              exact this) fun h => h
            have hpj1 : (p : Int) < (j : Int) := by omega
            have hpd : decide ((p : Int) < (j : Int)) = true := decide_eq_true hpj1
            have hp0 : (0 : Int) ≤ (p : Int) := by omega
            have HY := Lib.hid hy
            have HP := Lib.hid hpj
            clear h2 h3 hy hpj
            cases hb : Op.bytesLess y.toList x.toList with
            | true =>
              have HB := Lib.hid hb
              go_wp2_with fail
              go_quiet (fail)
              go_wp2_with fail
              go_roundw
              case rel => exact ⟨p + 1, by go_num, by have := HP.out; omega, Lib.hid fun q z hq hz => by
                by_cases hqp : q = p
                · subst hqp
                  rw [HY.out] at hz
                  cases hz
                  exact HB.out
                · exact hless.out q z (by omega) hz, Lib.hid (f1.out.drewN _)⟩
              case measure => have := HP.out; simp [intOf]; omega
            | false =>
              have HB := Lib.hid hb
              go_wp2_with fail
              go_quiet (fail)
              go_wp2_with fail
              go_meet
              exact ⟨p, rfl, by have := HP.out; omega, hless, Lib.hid fun z hz => (by rw [HY.out] at hz; cases hz; exact HB.out), Lib.hid (f1.out.drewN _)⟩
          · have hpd : decide ((p : Int) < (j : Int)) = false := decide_eq_false (by omega)
            have hpn : L[p]? = none := List.getElem?_eq_none (by omega)
            have HN := Lib.hid hpn
            clear hpn
            go_wp2_with fail
            go_quiet (fail)
            go_wp2_with fail
            go_meet
            exact ⟨p, rfl, hp, hless, Lib.hid fun z hz => (by rw [HN.out] at hz; cases hz), Lib.hid (f1.out.drewN _)⟩
      case rest =>
        obtain ⟨p, rfl, hp, hless, hstop, f2⟩ := hcut
        generalize wc = w2 at *
        have d32 := f2.out.cell d3 fun h => h
        have cx2 := f2.out.cell cx fun h => h
        have o2 := f2.out.ownsRow oj.out fun _ _ h => h
        have F2 := Lib.hid (fj.out.trans' f2.out)
        have T1 := slice_toS al j cl p (by omega)
        obtain ⟨A', T2, hA'⟩ := slice_fromA al j cl p hp (own_zero o2)
        have LC : Hid (∀ q y, L[q]? = some y → ∃ g, al = some ⟨g, 0, none⟩ ∧ w2.cell? ⟨g, q, none⟩ = some (.string y)) := Lib.hid fun q y hy => by
          have hq : q < j := by rw [← HL.out]; exact (List.getElem?_eq_some_iff.1 hy).1
          obtain ⟨g, cap', he⟩ := own_nil o2 (by omega)
          injection he with h1 h2 h3
          subst h1
          refine ⟨g, rfl, ?_⟩
          have := o2.cells (g := g) rfl q (.string y) (by unfold strsV; rw [List.getElem?_map, hy]; rfl)
          rw [Addr.add_lit, Nat.zero_add] at this
          exact this
        obtain ⟨L1, hL1⟩ : ∃ L1, L1 = L.take p := ⟨_, rfl⟩
        obtain ⟨L2, hL2⟩ : ∃ L2, L2 = L.drop p := ⟨_, rfl⟩
        have l1 : L1.length = p := by rw [hL1, List.length_take, hLl]; omega
        have l2 : L2.length = j - p := by rw [hL2, List.length_drop, hLl]
        have N1 : Hid (∀ W, Fr Nob w2 W → 0 < p → ∃ ad, al = some ad ∧ ∀ q u, (strsV L1)[q]? = some u → W.cell? (ad.add q) = some u) := Lib.hid fun W f hp0 => by
          obtain ⟨y, hy⟩ : ∃ y, L[0]? = some y := ⟨_, List.getElem?_eq_getElem (by omega)⟩
          obtain ⟨g, hg, _⟩ := LC.out 0 y hy
          refine ⟨_, hg, fun q u hu => ?_⟩
          obtain ⟨z, hz, rfl⟩ := strsV_get2 hu
          have hq : q < p := by rw [← l1]; exact (List.getElem?_eq_some_iff.1 hz).1
          rw [hL1, List.getElem?_take_of_lt hq] at hz
          obtain ⟨g', hg', c⟩ := LC.out q z hz
          rw [hg] at hg'
          injection hg' with hg'
          injection hg' with hg'
          subst hg'
          rw [Addr.add_lit, Nat.zero_add]
          exact f.cell c fun h => h
        have N2 : Hid (∀ W, Fr Nob w2 W → 0 < j - p → ∃ ad, A' = some ad ∧ ∀ q u, (strsV L2)[q]? = some u → W.cell? (ad.add q) = some u) := Lib.hid fun W f hp0 => by
          obtain ⟨y, hy⟩ : ∃ y, L[0]? = some y := ⟨_, List.getElem?_eq_getElem (by omega)⟩
          obtain ⟨g, hg, _⟩ := LC.out 0 y hy
          refine ⟨_, hA' g hg (by omega), fun q u hu => ?_⟩
          obtain ⟨z, hz, rfl⟩ := strsV_get2 hu
          rw [hL2, List.getElem?_drop] at hz
          obtain ⟨g', hg', c⟩ := LC.out _ z hz
          rw [hg] at hg'
          injection hg' with hg'
          injection hg' with hg'
          subst hg'
          rw [Addr.add_lit]
          exact f.cell c fun h => h
        have M1 : Hid ((strsV L1).length = p * 1) := Lib.hid (by unfold strsV; rw [List.length_map, l1, Nat.mul_one])
        have M2 : Hid ((strsV L2).length = (j - p) * 1) := Lib.hid (by unfold strsV; rw [List.length_map, l2, Nat.mul_one])
        have PK : Hid (∀ v7 w7, Fr Nob w2 w7 → World.ownsRow w7 w2.heap.size 9 1 v7 (p + 1 + (j - p)) (strsV L1 ++ [.string x] ++ strsV L2) → w7.ownsRow w.heap.size 9 1 v7 (j + 1) (strsV (insAt L p x)) ∧ Fr Nob w w7) := Lib.hid fun v7 w7 f o => by
          refine ⟨rows_base ?_ F2.out.size, F2.out.trans' f⟩
          unfold insAt
          rw [strsV_app, strsV_app, ← hL1, ← hL2, show j + 1 = p + 1 + (j - p) by omega]
          exact o
        have Q1 : Hid ((insAt L p x).Pairwise leK ∧ (insAt L p x).Perm ((keysM m).take (j + 1))) := Lib.hid ⟨insAt_sorted sj.out hless.out hstop.out, (insAt_perm L p x).trans (by
          rw [List.take_add_one, HX.out]
          exact pj.out.append_right _)⟩
        have FA : Hid (Fr Nob w2 ((w2.alloc (.cells #[] 9)).drew)) := Lib.hid ((Fr.refl Nob w2).alloc _).drew
        have FAX : Hid (Fr Nob w2 (((w2.alloc (.cells #[] 9)).alloc (.cells #[.string x] 9)).drew)) := Lib.hid (((Fr.refl Nob w2).alloc _).alloc _).drew
        have FXA : Hid (Fr Nob w2 (((w2.alloc (.cells #[.string x] 9)).alloc (.cells #[] 9)).drew)) := Lib.hid (((Fr.refl Nob w2).alloc _).alloc _).drew
        have ownA : Hid (((w2.alloc (.cells #[] 9)).drew).ownsRow w2.heap.size 9 1 (.slice (some ⟨w2.heap.size, 0, none⟩) 0 0) 0 []) := Lib.hid (World.ownsRow_made w2 #[] 0 (Nat.le_refl _) (Nat.zero_le _) rfl)
        have ownAX : Hid ((((w2.alloc (.cells #[] 9)).alloc (.cells #[.string x] 9)).drew).ownsRow w2.heap.size 9 1 (.slice (some ⟨w2.heap.size, 0, none⟩) 0 0) 0 []) := Lib.hid (((Fr.refl Nob (w2.alloc (.cells #[] 9))).alloc (.cells #[.string x] 9)).drew.ownsRow (World.ownsRow_made w2 #[] 0 (Nat.le_refl _) (Nat.zero_le _) rfl) fun _ _ h => h)
        have ownXA : Hid ((((w2.alloc (.cells #[.string x] 9)).alloc (.cells #[] 9)).drew).ownsRow w2.heap.size 9 1 (.slice (some ⟨w2.heap.size + 1, 0, none⟩) 0 0) 0 []) := Lib.hid (by
          have := World.ownsRow_made (w2.alloc (.cells #[.string x] 9)) #[] 0 (base := w2.heap.size) (by simp) (Nat.zero_le _) rfl (e := 9) (size := 1)
          have e : (w2.alloc (.cells #[.string x] 9)).heap.size = w2.heap.size + 1 := by simp
          rw [e] at this
          exact this)
        have XAX : Hid ((((w2.alloc (.cells #[] 9)).alloc (.cells #[.string x] 9)).drew).heap[w2.heap.size + 1]? = some (.cells #[.string x] 9 (0, 0))) := Lib.hid (by
          have := heap_alloc_new (w2.alloc (.cells #[] 9)) (.cells #[.string x] 9)
          have e : (w2.alloc (.cells #[] 9)).heap.size = w2.heap.size + 1 := by simp
          rw [e] at this
          exact this)
        have XXA : Hid ((((w2.alloc (.cells #[.string x] 9)).alloc (.cells #[] 9)).drew).heap[w2.heap.size]? = some (.cells #[.string x] 9 (0, 0))) := Lib.hid (((Fr.refl Nob (w2.alloc (.cells #[.string x] 9))).alloc (.cells #[] 9)).heap (heap_alloc_new w2 (.cells #[.string x] 9)) fun h => h)
        have SF : Hid (∀ W, Fr Nob w2 W → W.cell? ⟨t, 3, none⟩ = some (.slice (some ⟨g3, 0, none⟩) n cap3) ∧ W.cell? ⟨g3, j, none⟩ = some (.string x)) := Lib.hid fun W f => ⟨f.cell d32 fun h => h, f.cell cx2 fun h => h⟩
        have ONE : Hid (∀ u ∈ [Value.string x], u.oneCell' = true) := Lib.hid fun u hv => by
          simp only [List.mem_singleton] at hv
          subst hv
          rfl
        have hps : 0 ≤ (p : Int) := by omega
        have hpj : (p : Int) ≤ (j : Int) := by omega
        have F0 : Hid (Fr Nob w2 w2.drew) := Lib.hid (Fr.refl Nob w2).drew
        clear hstop hless LC hL1 hL2 l1 l2 hA' o2 d32 cx2 d3 cx oj sj pj fj f2 hLl
        go_upto_region 8 with fail
        go_region_held3 (fun w' => w'.cell? ⟨t, 3, none⟩ = some (.slice (some ⟨g3, 0, none⟩) n cap3) ∧ w'.cell? ⟨g3, j, none⟩ = some (.string x))
          (first | (refine SF.out _ ?_; first | with_reducible exact F0.out | with_reducible exact F7.out | with_reducible exact F6.out | with_reducible exact F5x.out | with_reducible exact F5.out | (repeat (with_reducible first | exact Fr.refl _ _ | refine Fr.drew ?_ | refine Fr.alloc ?_ _))))
          (first
          | (refine step_appG (o := ⟨some 39, _, _, _, _, _⟩) rfl (.tmp 35) (.tmp 38) 29 rfl 9 #[.string ⟨#[]⟩] 1 16 Try.underlying29 str_info rfl (by omega) w2.heap.size (some ⟨w2.heap.size, 0, none⟩) 0 0 [] rfl ownA.out al p cl (strsV L1) rfl M1.out (N1.out _ FA.out) (strsV_one _) (by omega) (by omega) (by first | (simp; done) | (simp; omega)) ?_
             intro v5 w5 o5 f5 h5
             clear h5
             rw [Nat.zero_add, List.nil_append] at o5
             have F5 : Hid (Fr Nob w2 w5) := Lib.hid (FA.out.trans f5.out fun q hq e => by simp [Value.ownBlock] at e; omega)
             obtain ⟨a5, cap5, rfl, _⟩ := own_shape o5.out
             have hb5 := F5.out.size
             have F5x : Hid (Fr Nob w2 (w5.alloc (.cells #[.string x] 9))) := Lib.hid (F5.out.alloc _)
             have O5x : Hid ((w5.alloc (.cells #[.string x] 9)).ownsRow w2.heap.size 9 1 (.slice a5 p cap5) p (strsV L1)) := Lib.hid (((Fr.refl Nob w5).alloc _).ownsRow o5.out fun _ _ h => h)
             have NXx : Hid (∀ i u, [Value.string x][i]? = some u → (w5.alloc (.cells #[.string x] 9)).cell? ((⟨w5.heap.size, 0, none⟩ : Addr).add i) = some u) := Lib.hid (new_one w5 _ _)
             have hb5x := F5x.out.size
             clear f5)
          | (refine step_appG (o := ⟨some 39, _, _, _, _, _⟩) rfl (.tmp 35) (.tmp 38) 29 rfl 9 #[.string ⟨#[]⟩] 1 16 Try.underlying29 str_info rfl (by omega) w2.heap.size (some ⟨w2.heap.size, 0, none⟩) 0 0 [] rfl ownAX.out al p cl (strsV L1) rfl M1.out (N1.out _ FAX.out) (strsV_one _) (by omega) (by omega) (by first | (simp; done) | (simp; omega)) ?_
             intro v5 w5 o5 f5 h5
             clear h5
             rw [Nat.zero_add, List.nil_append] at o5
             have F5 : Hid (Fr Nob w2 w5) := Lib.hid (FAX.out.trans f5.out fun q hq e => by simp [Value.ownBlock] at e; omega)
             obtain ⟨a5, cap5, rfl, _⟩ := own_shape o5.out
             have hb5 := F5.out.size
             have NX : Hid (∀ i u, [Value.string x][i]? = some u → w5.cell? ((⟨w2.heap.size + 1, 0, none⟩ : Addr).add i) = some u) := Lib.hid (news_one (f5.out.heap XAX.out (fun e => by simp [Value.ownBlock] at e)))
             clear f5)
          | (refine step_appG (o := ⟨some 39, _, _, _, _, _⟩) rfl (.tmp 35) (.tmp 38) 29 rfl 9 #[.string ⟨#[]⟩] 1 16 Try.underlying29 str_info rfl (by omega) w2.heap.size (some ⟨w2.heap.size + 1, 0, none⟩) 0 0 [] rfl ownXA.out al p cl (strsV L1) rfl M1.out (N1.out _ FXA.out) (strsV_one _) (by omega) (by omega) (by first | (simp; done) | (simp; omega)) ?_
             intro v5 w5 o5 f5 h5
             clear h5
             rw [Nat.zero_add, List.nil_append] at o5
             have F5 : Hid (Fr Nob w2 w5) := Lib.hid (FXA.out.trans f5.out fun q hq e => by simp [Value.ownBlock] at e; omega)
             obtain ⟨a5, cap5, rfl, _⟩ := own_shape o5.out
             have hb5 := F5.out.size
             have NX : Hid (∀ i u, [Value.string x][i]? = some u → w5.cell? ((⟨w2.heap.size, 0, none⟩ : Addr).add i) = some u) := Lib.hid (news_one (f5.out.heap XXA.out (fun e => by simp [Value.ownBlock] at e)))
             clear f5)
          | (refine step_appG (o := ⟨some 48, _, _, _, _, _⟩) rfl (.tmp 39) (.tmp 47) 29 rfl 9 #[.string ⟨#[]⟩] 1 16 Try.underlying29 str_info rfl (by omega) w2.heap.size a5 p cap5 (strsV L1) rfl O5x.out (some ⟨w5.heap.size, 0, none⟩) 1 1 [.string x] rfl rfl (fun _ => ⟨_, rfl, NXx.out⟩) ONE.out (by omega) (by omega) hb5x ?_
             intro v6 w6 o6 f6 h6
             clear h6
             have F6 : Hid (Fr Nob w2 w6) := Lib.hid (F5x.out.trans f6.out fun q hq e => by have := (o5.out.lt q e).1; omega)
             obtain ⟨a6, cap6, rfl, _⟩ := own_shape o6.out
             have hb6 := F6.out.size
             clear f6)
          | (refine step_appG (o := ⟨some 48, _, _, _, _, _⟩) rfl (.tmp 39) (.tmp 47) 29 rfl 9 #[.string ⟨#[]⟩] 1 16 Try.underlying29 str_info rfl (by omega) w2.heap.size a5 p cap5 (strsV L1) rfl o5.out (some ⟨w2.heap.size + 1, 0, none⟩) 1 1 [.string x] rfl rfl (fun _ => ⟨_, rfl, NX.out⟩) ONE.out (by omega) (by omega) hb5 ?_
             intro v6 w6 o6 f6 h6
             clear h6
             have F6 : Hid (Fr Nob w2 w6) := Lib.hid (F5.out.trans f6.out fun q hq e => by have := (o5.out.lt q e).1; omega)
             obtain ⟨a6, cap6, rfl, _⟩ := own_shape o6.out
             have hb6 := F6.out.size
             clear f6)
          | (refine step_appG (o := ⟨some 48, _, _, _, _, _⟩) rfl (.tmp 39) (.tmp 47) 29 rfl 9 #[.string ⟨#[]⟩] 1 16 Try.underlying29 str_info rfl (by omega) w2.heap.size a5 p cap5 (strsV L1) rfl o5.out (some ⟨w2.heap.size, 0, none⟩) 1 1 [.string x] rfl rfl (fun _ => ⟨_, rfl, NX.out⟩) ONE.out (by omega) (by omega) hb5 ?_
             intro v6 w6 o6 f6 h6
             clear h6
             have F6 : Hid (Fr Nob w2 w6) := Lib.hid (F5.out.trans f6.out fun q hq e => by have := (o5.out.lt q e).1; omega)
             obtain ⟨a6, cap6, rfl, _⟩ := own_shape o6.out
             have hb6 := F6.out.size
             clear f6)
          | (refine step_appG (o := ⟨some 52, _, _, _, _, _⟩) rfl (.tmp 48) (.tmp 51) 29 rfl 9 #[.string ⟨#[]⟩] 1 16 Try.underlying29 str_info rfl (by omega) w2.heap.size a6 (p + 1) cap6 (strsV L1 ++ [.string x]) rfl o6.out A' (j - p) (cl - p) (strsV L2) rfl M2.out (N2.out _ F6.out) (strsV_one _) (by omega) (by omega) hb6 ?_
             intro v7 w7 o7 f7 h7
             clear h7
             have F7 : Hid (Fr Nob w2 w7) := Lib.hid (F6.out.trans f7.out fun q hq e => by have := (o6.out.lt q e).1; omega)
             obtain ⟨a7, cap7, rfl, _⟩ := own_shape o7.out
             clear f7))
        all_goals
          have pk := PK.out _ _ F7.out o7.out
          have P1 := Lib.hid pk.1
          have P2 := Lib.hid pk.2
          have Q2 := Lib.hid Q1.out.1
          have Q3 := Lib.hid Q1.out.2
          clear pk
          go_wp2_with fail
          go_roundw
          case rel => exact ⟨j + 1, insAt L p x, by have := HJ.out; omega, by go_num, P1, Q2, Q3, P2⟩
          case measure => have := HJ.out; simp [intOf]; omega
    · obtain rfl : j = n := by omega
      have pj2 := pj.out
      rw [List.take_of_length_le (by rw [hK.out]; exact Nat.le_refl _)] at pj2
      have P2 := Lib.hid pj2
      clear pj2 pj
      go_wp2_with fail
      go_ret
      exact ⟨_, L, rfl, Lib.hid (RdS.of_row oj.out), sj, P2, fj⟩
end
end Go.Proofs.Ytefjcjmdmnfbhaa
