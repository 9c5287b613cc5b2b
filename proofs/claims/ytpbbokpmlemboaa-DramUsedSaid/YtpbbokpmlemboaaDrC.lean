/-
  dram: the contract of let: one is let go.
-/
import Derived.Test.YtpbbokpmlemboaaDrB
namespace Go.Proofs.Ytpbbokpmlemboaa
open Go.RowKit Sl

theorem seg_len {w : World} {p : Nat} {K : Nat → Prop} {S : Sg} (s : SegAt w p K S) (o : S.Ok) {n : Nat} (hn : S.tot = n) : Calls Try.prog 42 #[.pointer (some ⟨p, 0, none⟩)] w fun e w' => e = .returned (.int .i64 (n : Int)) ∧ w = w' := by
  have := len_eq s
  rw [o.len, hn] at this
  exact this
theorem evict_yes {S S' : Sg} {x : Int} {b : Bool} (h : EvTo S x b S') (hp : 0 < S.tot) : b = true := by
  obtain ⟨_, S1, m, h⟩ := h
  rcases h with ⟨h, _⟩ | ⟨_, _, h0, _⟩
  · exact h
  · rw [m.tot] at h0; omega
theorem DC.OkBut.some_tot {C : DC} (h : C.Ok) (hp : 0 < C.M.length) (cl : Nat) : 0 < (C.G (C.from_ cl)).tot := by
  obtain ⟨⟨x, o⟩, hm⟩ : ∃ y, y ∈ C.M := List.exists_mem_of_length_pos hp
  have hg : (getM C.M x).isSome = true := getM_isSome.2 (List.mem_map.2 ⟨_, hm, rfl⟩)
  obtain ⟨o, ho⟩ := Option.isSome_iff_exists.1 hg
  obtain ⟨i, hi, _, hI⟩ := h.cls_of ho
  have h1 : 0 < (C.G i).tot := by
    rw [← (h.sg i hi).len]
    exact List.length_pos_of_mem (List.mem_map.1 (getM_isSome.1 hI)).choose_spec.1
  unfold DC.from_
  split
  · have := maxFrom_le (fun i => (C.G i).tot) 6 i hi
    omega
  · omega
theorem results_cell2 {fn : Func} {p q : Tmp} {ty : TypeId} (h : fn.results = #[.cell p ty, .tmp q]) (tmps : Array Value) (P : Program) (w : World) :
    (results fn tmps).run P w = ((asAddr (tmps.getD p undef)).run P w).andThen fun a w₁ => ((loadVar ty a).run P w₁).andThen fun v w₂ => .ok (.tuple #[v, tmps.getD q undef]) w₂ := by
  simp only [results, h]
  simp [Result.andThen]

set_option maxRecDepth 100000 in
theorem index_six (v : Nat → Value) {k : Nat} (hk : k < 6) (W : World) : (Instr.index 62 (.agg #[v 0, v 1, v 2, v 3, v 4, v 5]) (.int .i64 (k : Int))).run Try.prog W = .ok (v k) W := by
  rcases (by omega : k = 0 ∨ k = 1 ∨ k = 2 ∨ k = 3 ∨ k = 4 ∨ k = 5) with rfl | rfl | rfl | rfl | rfl | rfl
  all_goals simp [Instr.index, go_sem]

set_option maxHeartbeats 4000000 in
set_option maxRecDepth 100000 in
theorem let_eq {w : World} {P : DP} {O : Nat → Nat → Prop} {C : DC} {cl : Nat} (h : DrIn w P O C) (ok : C.Ok) (hc : cl < 6) (hp : 0 < C.M.length) (hn : C.S.length ≤ 150) :
    Calls Try.prog 28 #[.pointer (some ⟨P.c, 0, none⟩), .int .i64 cl] w fun e w' => ∃ o C', e = .returned (.tuple #[outV o, .bool true]) ∧ LetTo C cl o C' ∧ DrTo w P O w' C' := by
  have few := ok.few
  have TT : Hid (∀ i, i < 6 → (C.G i).tot ≤ 9600) := Lib.hid fun i hi => by have := ok.tot hi; omega
  have SG : Hid (∀ i, i < 6 → (C.G i).Ok) := Lib.hid ok.sg
  have PO : Hid (∀ f, C.from_ cl = f → 0 < (C.G f).tot) := Lib.hid fun f e => by rw [← e]; exact ok.some_tot hp cl
  have OK := Lib.hid ok
  have AP : Hid (∀ b, w.heap.size ≤ b → ¬ UO O b) := Lib.hid fun b hb hk => by have := h.ltU hk; omega
  have f1 : Fr Nob w (w.alloc (.cells zeroC 42)) := (Fr.refl Nob w).alloc _
  have a1 := heap_alloc_new w (.cells zeroC 42)
  have n1 := Lib.hid (lt_of_block a1)
  have H1 := Lib.hid (h.nob f1)
  have F1 := Lib.hid f1
  have k0 : (0 : Int) ≤ (cl : Int) := by omega
  have k6 : (cl : Int) < 6 := by omega
  have kt : (cl : Int).toNat = cl := by omega
  clear ok f1 h
  go_enter Try.func28, Try.ntmps28
  go_upto_region 1 with fail
  generalize w.alloc (.cells zeroC 42) = w1 at *
  obtain ⟨c0, c1, cs, c8⟩ := H1.out.cells
  have ci := cs cl hc
  by_cases h0 : (C.G cl).tot = 0
  · have HF0 : Hid (C.from_ cl = maxFrom (fun i => (C.G i).tot) 6) := Lib.hid (if_pos h0)
    have CS := Lib.hid cs
    have z0 : w1.cell? ⟨P.c, 2, none⟩ = some (.pointer (some ⟨P.q 0, 0, none⟩)) := cs 0 (by omega)
    have z1 : w1.cell? ⟨P.c, 3, none⟩ = some (.pointer (some ⟨P.q 1, 0, none⟩)) := cs 1 (by omega)
    have z2 : w1.cell? ⟨P.c, 4, none⟩ = some (.pointer (some ⟨P.q 2, 0, none⟩)) := cs 2 (by omega)
    have z3 : w1.cell? ⟨P.c, 5, none⟩ = some (.pointer (some ⟨P.q 3, 0, none⟩)) := cs 3 (by omega)
    have z4 : w1.cell? ⟨P.c, 6, none⟩ = some (.pointer (some ⟨P.q 4, 0, none⟩)) := cs 4 (by omega)
    have z5 : w1.cell? ⟨P.c, 7, none⟩ = some (.pointer (some ⟨P.q 5, 0, none⟩)) := cs 5 (by omega)
    have HZ := Lib.hid h0
    clear cs c0 c1 c8 h0
    go_wp2_with fail
    refine (seg_len (H1.out.seg cl hc) (SG.out cl hc) HZ.out).mono ?_
    rintro e w' ⟨rfl, rfl⟩
    clear ci
    go_wp2_with fail
    clear z0 z1 z2 z3 z4 z5
    go_loopw [6, 7, 8, 24] (fun f _ _ i wr => ∃ k : Nat, k ≤ 6 ∧ i = .int .i64 k ∧ (∃ m : Nat, f = .int .i64 m ∧ Hid (m = maxFrom (fun i => (C.G i).tot) k)) ∧ ∃ q, wr = w1.drewN q) (fun _ _ _ i _ => 6 - (Lib.intOf i).toNat)
    case atStart => exact ⟨0, by omega, rfl, ⟨0, rfl, Lib.hid rfl⟩, 0, rfl⟩
    case round =>
      obtain ⟨k, hk, rfl, ⟨f, rfl, HM⟩, q, rfl⟩ := hrel
      by_cases hlt : k < 6
      · have hf : f < 6 := by
          have h1 := HM.out
          cases k with
          | zero => have : f = 0 := h1; omega
          | succ k => have := maxFrom_lt (fun i => (C.G i).tot) (k + 1) (by omega); omega
        have cf := CS.out f hf
        obtain ⟨tf, htf⟩ : ∃ t, (C.G f).tot = t := ⟨_, rfl⟩
        obtain ⟨tk, htk⟩ : ∃ t, (C.G k).tot = t := ⟨_, rfl⟩
        have HTF := Lib.hid htf
        have HTK := Lib.hid htk
        have f0 : (0 : Int) ≤ (f : Int) := by omega
        have f6 : (f : Int) < 6 := by omega
        have ft : (f : Int).toNat = f := by omega
        have NX : Hid (maxFrom (fun i => (C.G i).tot) (k + 1) = if tf < tk then k else f) := Lib.hid (by
          show (if (C.G (maxFrom (fun i => (C.G i).tot) k)).tot < (C.G k).tot then k else maxFrom (fun i => (C.G i).tot) k) = _
          rw [← HM.out, htf, htk])
        have HK := Lib.hid hlt
        have HD := fun n => Lib.hid (H1.out.nob ((Fr.refl Nob w1).drewN n))
        clear htf htk
        by_cases hgt : tf < tk
        · have e1 := NX.out
          rw [if_pos hgt] at e1
          have E1 := Lib.hid e1
          clear e1
          have hgt2 : (tf : Int) < (tk : Int) := by omega
          have IX := index_six (fun i => .pointer (some ⟨P.q i, 0, none⟩)) hlt (w1.drewN q)
          have hlt2 : (k : Int) < 6 := by omega
          go_wp2_with fail
          go_quiet ((go_at_call 42; first | exact quietL (seg_len ((HD _).out.seg f hf) (SG.out f hf) HTF.out) | exact quietL' (seg_len ((HD _).out.seg f hf) (SG.out f hf) HTF.out) | exact quietL (seg_len ((HD _).out.seg k hlt) (SG.out k hlt) HTK.out) | exact quietL' (seg_len ((HD _).out.seg k hlt) (SG.out k hlt) HTK.out)))
          go_wp2_with fail
          go_roundw
          case rel => exact ⟨k + 1, by omega, by go_num, ⟨k, rfl, Lib.hid E1.out.symm⟩, _, rfl⟩
          case measure => simp [Lib.intOf]; omega
        · have e1 := NX.out
          rw [if_neg hgt] at e1
          have E1 := Lib.hid e1
          clear e1
          have hgt2 : ¬ (tf : Int) < (tk : Int) := by omega
          have IX := index_six (fun i => .pointer (some ⟨P.q i, 0, none⟩)) hlt (w1.drewN q)
          have hlt2 : (k : Int) < 6 := by omega
          go_wp2_with fail
          go_quiet ((go_at_call 42; first | exact quietL (seg_len ((HD _).out.seg f hf) (SG.out f hf) HTF.out) | exact quietL' (seg_len ((HD _).out.seg f hf) (SG.out f hf) HTF.out) | exact quietL (seg_len ((HD _).out.seg k hlt) (SG.out k hlt) HTK.out) | exact quietL' (seg_len ((HD _).out.seg k hlt) (SG.out k hlt) HTK.out)))
          go_wp2_with fail
          go_roundw
          case rel => exact ⟨k + 1, by omega, by go_num, ⟨f, rfl, Lib.hid E1.out.symm⟩, _, rfl⟩
          case measure => simp [Lib.intOf]; omega
      · have hk6 : k = 6 := by omega
        subst hk6
        have hf : f < 6 := by
          have := maxFrom_lt (fun i => (C.G i).tot) 6 (by omega)
          have := HM.out
          omega
        have HFr : Hid (C.from_ cl = f) := Lib.hid (HF0.out.trans HM.out.symm)
        have hlt2 : ¬ ((6 : Nat) : Int) < 6 := by omega
        have H2 := Lib.hid (H1.out.nob ((Fr.refl Nob w1).drewN q))
        have F2 := Lib.hid (F1.out.drewN q)
        replace a1 : (w1.drewN q).heap[w.heap.size]? = _ := a1
        have n1 : Hid (w.heap.size < (w1.drewN q).heap.size) := n1
        clear HZ HF0 HM CS H1 F1 hlt hk
        generalize w1.drewN q = w2 at *
        have f0 : (0 : Int) ≤ (f : Int) := by omega
        have f6 : (f : Int) < 6 := by omega
        have ft : (f : Int).toNat = f := by omega
        obtain ⟨c0, c1, cs, c8⟩ := H2.out.cells
        have ci := cs f hf
        clear cs c0 c1 c8
        go_wp2_with fail
        refine (evict_eq (H2.out.seg f hf) (SG.out f hf) (by have := TT.out f hf; omega)).mono ?_
        rintro e w3 ⟨x, b, S', rfl, g, he⟩
        obtain rfl := evict_yes he (PO.out f HFr.out)
        obtain ⟨O3, h3, f3, l3⟩ := H2.out.segTo hf g
        obtain ⟨hI, hk⟩ := he.keys (SG.out f hf)
        obtain ⟨ok3, _, o, ho⟩ := OK.out.leave hf he.1 hI hk
        replace a1 := f3.heap a1 (AP.out _ (Nat.le_refl _))
        have AP3 : Hid (¬ UO O3 w.heap.size) := Lib.hid fun h => (l3 _ h).elim (AP.out _ (Nat.le_refl _)) fun h => by have := n1.out; omega
        have H3 := Lib.hid h3
        have F3 := Lib.hid ((F2.out.nob (S := UO O)).trans f3 fun k _ h => h)
        have L3 := Lib.hid fun k hk => (l3 k hk).elim .inl fun h => Or.inr (Nat.le_trans F2.out.size h)
        have E3 := Lib.hid he
        have HO := Lib.hid ho
        clear h3 f3 l3 g he ci hI hk H2 F2 n1
        go_wp2_with fail
        refine (gone_eq H3.out ok3 HO.out hn).mono ?_
        rintro e w4 ⟨rfl, O4, h4, f4, l4⟩
        obtain ⟨⟨k, v, fl, ex, ve⟩, cl2⟩ := o
        have n3 := lt_of_block a1
        replace a1 := f4.heap a1 AP3.out
        have AP4 : Hid (¬ UO O4 w.heap.size) := Lib.hid fun h => (l4 _ h).elim AP3.out fun h => by omega
        have H4 := Lib.hid h4
        have F4 := Lib.hid (F3.out.trans f4 fun k hk h => (L3.out k h).elim id fun h => by omega)
        have L4 := Lib.hid fun k hk => (l4 k hk).elim (fun h => L3.out k h) fun h => Or.inr (Nat.le_trans F3.out.size h)
        clear h4 f4 l4 H3 F3 L3 AP3 n3
        obtain ⟨p0, p1, p2, p3, p4, p5, pz⟩ := box6 a1
        go_wp2_with fail
        have FB : Hid (Fr (One w.heap.size) w4 _) := Lib.hid ((((((((Fr.refl (One w.heap.size) w4).set1 (o := 0) (.string k)).set1 (o := 1) (.string v)).set1 (o := 2) (.int .u32 fl)).set1 (o := 3) (.int .i64 ex)).set1 (o := 4) (.int .u64 ve)).set1 (o := 5) (.bool cl2)))
        refine bodyPost_ret ?_ rfl ⟨((⟨k, v, fl, ex, ve⟩ : It), cl2), _, rfl, ⟨x, S', by rw [HFr.out]; exact E3.out, HO.out, by rw [HFr.out]⟩, O4, H4.out.keep FB.out fun k hk e => AP4.out (by rw [← show k = w.heap.size from e]; exact hk), ?_, L4.out⟩
        · rw [results_cell2 rfl]
          go_simp
        · exact F4.out.trans FB.out fun k hk e => by have : k = w.heap.size := e; omega
  · have HF0 : Hid (C.from_ cl = cl) := Lib.hid (if_neg h0)
    obtain ⟨t, ht⟩ : ∃ t, (C.G cl).tot = t := ⟨_, rfl⟩
    have HT := Lib.hid ht
    have h1 : ¬ (t : Int) = 0 := by omega
    have h2 : ((t : Int) == 0) = false := by simp; omega
    clear cs c0 c1 c8 h0 ht
    go_wp2_with fail
    refine (seg_len (H1.out.seg cl hc) (SG.out cl hc) HT.out).mono ?_
    rintro e w' ⟨rfl, rfl⟩
    have H2 := H1
    have F2 := F1
    have HFr := HF0
    clear H1 F1 HF0
    obtain ⟨f, hfc⟩ : ∃ f, cl = f := ⟨_, rfl⟩
    have hf : f < 6 := by omega
    subst hfc
    obtain ⟨c0, c1, cs, c8⟩ := H2.out.cells
    have ci := cs cl hf
    clear cs c0 c1 c8
    go_wp2_with fail
    refine (evict_eq (H2.out.seg cl hf) (SG.out cl hf) (by have := TT.out cl hf; omega)).mono ?_
    rintro e w3 ⟨x, b, S', rfl, g, he⟩
    obtain rfl := evict_yes he (PO.out cl HFr.out)
    obtain ⟨O3, h3, f3, l3⟩ := H2.out.segTo hf g
    obtain ⟨hI, hk⟩ := he.keys (SG.out cl hf)
    obtain ⟨ok3, _, o, ho⟩ := OK.out.leave hf he.1 hI hk
    replace a1 := f3.heap a1 (AP.out _ (Nat.le_refl _))
    have AP3 : Hid (¬ UO O3 w.heap.size) := Lib.hid fun h => (l3 _ h).elim (AP.out _ (Nat.le_refl _)) fun h => by have := n1.out; omega
    have H3 := Lib.hid h3
    have F3 := Lib.hid ((F2.out.nob (S := UO O)).trans f3 fun k _ h => h)
    have L3 := Lib.hid fun k hk => (l3 k hk).elim .inl fun h => Or.inr (Nat.le_trans F2.out.size h)
    have E3 := Lib.hid he
    have HO := Lib.hid ho
    clear h3 f3 l3 g he ci hI hk H2 F2 n1
    go_wp2_with fail
    refine (gone_eq H3.out ok3 HO.out hn).mono ?_
    rintro e w4 ⟨rfl, O4, h4, f4, l4⟩
    obtain ⟨⟨k, v, fl, ex, ve⟩, cl2⟩ := o
    have n3 := lt_of_block a1
    replace a1 := f4.heap a1 AP3.out
    have AP4 : Hid (¬ UO O4 w.heap.size) := Lib.hid fun h => (l4 _ h).elim AP3.out fun h => by omega
    have H4 := Lib.hid h4
    have F4 := Lib.hid (F3.out.trans f4 fun k hk h => (L3.out k h).elim id fun h => by omega)
    have L4 := Lib.hid fun k hk => (l4 k hk).elim (fun h => L3.out k h) fun h => Or.inr (Nat.le_trans F3.out.size h)
    clear h4 f4 l4 H3 F3 L3 AP3 n3
    obtain ⟨p0, p1, p2, p3, p4, p5, pz⟩ := box6 a1
    go_wp2_with fail
    have FB : Hid (Fr (One w.heap.size) w4 _) := Lib.hid ((((((((Fr.refl (One w.heap.size) w4).set1 (o := 0) (.string k)).set1 (o := 1) (.string v)).set1 (o := 2) (.int .u32 fl)).set1 (o := 3) (.int .i64 ex)).set1 (o := 4) (.int .u64 ve)).set1 (o := 5) (.bool cl2)))
    refine bodyPost_ret ?_ rfl ⟨((⟨k, v, fl, ex, ve⟩ : It), cl2), _, rfl, ⟨x, S', by rw [HFr.out]; exact E3.out, HO.out, by rw [HFr.out]⟩, O4, H4.out.keep FB.out fun k hk e => AP4.out (by rw [← show k = w.heap.size from e]; exact hk), ?_, L4.out⟩
    · rw [results_cell2 rfl]
      go_simp
    · exact F4.out.trans FB.out fun k hk e => by have : k = w.heap.size := e; omega

end Go.Proofs.Ytpbbokpmlemboaa
