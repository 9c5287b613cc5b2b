/-
  dram: contracts of gone and drop.
-/
import Derived.Test.YtpbbokpmlemboaaDrM
import Derived.Deep.DeepCutAuto
namespace Go.Proofs.Ytpbbokpmlemboaa
open Go.RowKit Sl

abbrev zeroC : Array Value := #[.string ⟨#[]⟩, .string ⟨#[]⟩, .int .u32 0, .int .i64 0, .int .u64 0, .bool false]
def zeroO : Ou := (⟨⟨#[]⟩, ⟨#[]⟩, 0, 0, 0⟩, false)
theorem out_zero (w : World) : (zeroValue 42).run Try.prog w = .ok (outV zeroO) w := by kernel_rfl

theorem results_cell {fn : Func} {p : Tmp} {ty : TypeId} (h : fn.results = #[.cell p ty]) (tmps : Array Value) (P : Program) (w : World) :
    (results fn tmps).run P w = ((asAddr (tmps.getD p undef)).run P w).andThen fun a w₁ => (loadVar ty a).run P w₁ := by
  simp only [results, h]
  simp [Result.andThen]
theorem box6 {w : World} {b : Nat} {v0 v1 v2 v3 v4 v5 : Value} {t : TypeId} (h : w.heap[b]? = some (.cells #[v0, v1, v2, v3, v4, v5] t (0, 0))) :
    w.cell? ⟨b, 0, none⟩ = some v0 ∧ w.cell? ⟨b, 1, none⟩ = some v1 ∧ w.cell? ⟨b, 2, none⟩ = some v2 ∧ w.cell? ⟨b, 3, none⟩ = some v3 ∧ w.cell? ⟨b, 4, none⟩ = some v4 ∧ w.cell? ⟨b, 5, none⟩ = some v5 ∧ ∀ j, w.frozen? ⟨b, j, none⟩ = false := by
  have g := fun j => cell_of_row w b j _ _ (0, 0) h
  exact ⟨g 0, g 1, g 2, g 3, g 4, g 5, fun j => frozen_of_row w b j _ _ h⟩

set_option maxHeartbeats 2000000 in
set_option maxRecDepth 100000 in
theorem gone_eq {w : World} {P : DP} {O : Nat → Nat → Prop} {C : DC} {x : Int} {o : Ou} (h : DrIn w P O C) (ok : C.OkBut (some x)) (hx : getM C.M x = some o) (hn : C.S.length ≤ 150) :
    Calls Try.prog 44 #[.pointer (some ⟨P.c, 0, none⟩), .int .i64 x] w fun e w' => e = .returned (outV o) ∧ DrTo w P O w' (C.goneC x o.1.key) := by
  have few := ok.few
  have TK := Lib.hid (ok.taken hx)
  have hx6 := taken_lt (ok.taken hx) (by omega)
  have lnM := ok.ln
  have H := Lib.hid h
  have OK := Lib.hid ok
  have HX := Lib.hid hx
  have hsz := ok.tk.sz o.1.key (by rw [Tb.mem_keys, ok.keyOf x o hx]; rfl)
  obtain ⟨⟨k, v, fl, ex, ve⟩, cl⟩ := o
  have f1 : Fr Nob w (w.alloc (.cells zeroC 42)) := (Fr.refl Nob w).alloc _
  have a1 := heap_alloc_new w (.cells zeroC 42)
  have h1 := h.nob f1
  have n1 : w.heap.size < (w.alloc (.cells zeroC 42)).heap.size := lt_of_block a1
  have H1 := Lib.hid h1
  have F1 := Lib.hid f1
  obtain ⟨c0, c1, cs, c8⟩ := h1.cells
  have nc : ∀ i, i < 10 → ∀ k, O i k → k < w.heap.size := fun i hi k hk => h.lt hi hk
  have NC := Lib.hid nc
  clear cs h ok hx h1 f1 nc
  go_enter Try.func44, Try.ntmps44
  go_upto_region 1 with fail
  generalize w.alloc (.cells zeroC 42) = w1 at *
  go_wp2_with (at_lookup; (with_reducible refine wpList_lookupM rfl _ _ 60 rfl (int_key .i64) (val := outV) Try.underlying60 Try.underlying3 (out_zero _) H1.out.map rfl x rfl ?_); rw [HX.out])
  have f2 : Fr Nob w1 (w1.alloc (.cells #[.string k, .string v, .int .u32 fl, .int .i64 ex, .int .u64 ve, .bool cl] 42)) := (Fr.refl Nob w1).alloc _
  have a2 := heap_alloc_new w1 (.cells #[.string k, .string v, .int .u32 fl, .int .i64 ex, .int .u64 ve, .bool cl] 42)
  replace a1 := f2.heap a1 fun h => h
  have H2 := Lib.hid (H1.out.nob f2)
  have F2 := Lib.hid (F1.out.trans' f2)
  clear H1 F1 c0 c1 c8 f2
  generalize w1.alloc (.cells #[.string k, .string v, .int .u32 fl, .int .i64 ex, .int .u64 ve, .bool cl] 42) = w2 at *
  obtain ⟨c0, c1, cs, c8⟩ := H2.out.cells
  have d0 := cell_of_row w2 w1.heap.size 0 _ _ (0, 0) a2
  have d0' : w2.cell? ⟨w1.heap.size, 0, none⟩ = some (.string k) := d0
  clear cs d0 c0 c8
  have HD := Lib.hid (H2.out.nob (Fr.refl Nob w2).drew)
  go_region_with (go_at_call 59; refine (Tb.del_eq HD.out.tab OK.out.tk k hsz (by omega)).mono ?_; rintro e w3 ⟨rfl, g⟩)
  all_goals
    have AP : Hid (∀ b, w.heap.size ≤ b → ¬ UO O b) := Lib.hid fun b hb ⟨i, hi, hk⟩ => by have := NC.out i hi b hk; omega
    obtain ⟨O3, h3, f3, l3⟩ := HD.out.tabTo g
    have n2 := lt_of_block a2
    have AP3 : Hid (¬ UO O3 w.heap.size ∧ ¬ UO O3 w1.heap.size) := Lib.hid ⟨fun h => (l3 _ h).elim (AP.out _ (Nat.le_refl _)) fun h => by have : w2.heap.size ≤ w.heap.size := h; omega, fun h => (l3 _ h).elim (AP.out _ (by omega)) fun h => by have : w2.heap.size ≤ w1.heap.size := h; omega⟩
    replace a1 := f3.heap a1 (AP.out _ (Nat.le_refl _))
    replace a2 := f3.heap a2 (AP.out _ (by omega))
    have F3 := Lib.hid ((F2.out.nob (S := UO O)).trans f3.undrew fun k _ h => h)
    have L3 := Lib.hid fun k hk => (l3 k hk).elim .inl fun h => Or.inr (Nat.le_trans F2.out.size h)
    have H3 := Lib.hid h3
    clear h3 f3 l3 g c1 d0' H2 HD F2
    obtain ⟨c0, c1, cs, c8⟩ := H3.out.cells
    clear cs c1 c0
    go_wp2_with (at_delete; (with_reducible refine wpList_deleteM rfl _ _ _ _ rfl (int_key .i64) Try.underlying60 Try.underlying3 H3.out.map rfl x rfl ?_); intro w4 m4 f4; have H4 := Lib.hid (H3.out.mapIn m4 f4); have e0 := H4.out.cells.1)
    refine (free_eq _ _ _ _ _ 0 (by omega) H4.out.slab (if_pos TK.out)).mono ?_
    rintro e w5 ⟨rfl, s5, f5⟩
    have H5 := Lib.hid (H4.out.slabIn s5.out f5.out)
    replace a1 := f5.out.heap (f4.heap a1 fun h => AP3.out.1 (H3.out.mapU _ h)) fun h => AP3.out.1 (H4.out.slabU _ h)
    replace a2 := f5.out.heap (f4.heap a2 fun h => AP3.out.2 (H3.out.mapU _ h)) fun h => AP3.out.2 (H4.out.slabU _ h)
    have F5 := Lib.hid ((f4.mono (S' := UO O3) fun k _ hk => H3.out.mapU k hk).trans f5.out fun k _ hk => H4.out.slabU k hk)
    clear f4 f5 s5 m4 e0 c8 H4 H3
    obtain ⟨g0, g1, g2, g3, g4, g5, gz⟩ := box6 a2
    obtain ⟨p0, p1, p2, p3, p4, p5, pz⟩ := box6 a1
    clear gz
    go_wp2_with fail
    have FB : Hid (Fr (One w.heap.size) w5 _) := Lib.hid ((((((((Fr.refl (One w.heap.size) w5).set1 (o := 0) (.string k)).set1 (o := 1) (.string v)).set1 (o := 2) (.int .u32 fl)).set1 (o := 3) (.int .i64 ex)).set1 (o := 4) (.int .u64 ve)).set1 (o := 5) (.bool cl)))
    refine bodyPost_ret ?_ rfl ⟨rfl, O3, H5.out.keep FB.out fun k hk e => AP3.out.1 (by rw [← show k = w.heap.size from e]; exact hk), ?_, L3.out⟩
    · rw [results_cell rfl]
      go_simp
    · exact (F3.out.trans F5.out fun k hk h => (L3.out k h).elim id fun h => by omega).trans FB.out fun k hk e => by have : k = w.heap.size := e; omega

theorem DC.OkBut.cls_of {C : DC} (h : C.Ok) {x : Int} {o : Ou} (hx : getM C.M x = some o) : ∃ i : Nat, i < 6 ∧ ofS C.S x = (i : Int) ∧ (getM (C.G i).I x).isSome = true := by
  obtain ⟨_, h1, h2, h3⟩ := h.touch hx
  exact ⟨_, h1, by omega, h3⟩

set_option maxHeartbeats 2000000 in
set_option maxRecDepth 100000 in
theorem drop_eq {w : World} {P : DP} {O : Nat → Nat → Prop} {C : DC} {x : Int} {o : Ou} (h : DrIn w P O C) (ok : C.Ok) (hx : getM C.M x = some o) (hn : C.S.length ≤ 150) :
    Calls Try.prog 32 #[.pointer (some ⟨P.c, 0, none⟩), .int .i64 x] w fun e w' => e = .returned (.tuple #[]) ∧ ∃ C', DropTo C x o C' ∧ DrTo w P O w' C' := by
  have few := ok.few
  have hx6 := taken_lt (ok.taken hx) (by omega)
  obtain ⟨i, hi, hof, hI⟩ := ok.cls_of hx
  have tot := ok.tot hi
  have HS := Lib.hid (ok.sg i hi)
  have HD := Lib.hid (h.nob (Fr.refl Nob w).drew)
  have OK := Lib.hid ok
  have HX := Lib.hid hx
  have HF := Lib.hid hof
  have HI := Lib.hid hI
  obtain ⟨c0, c1, cs, c8⟩ := HD.out.cells
  have ci := cs i hi
  have i0 : (0 : Int) ≤ (i : Int) := by omega
  have i6 : (i : Int) < 6 := by omega
  have it : (i : Int).toNat = i := by omega
  clear cs ok hx hof h c1 c8 hI
  go_enter Try.func32, Try.ntmps32
  go_wp2_with fail
  go_region_with (first | (go_at_call 33; refine (of_eq _ _ _ _ _ (i : Int) (by omega) HD.out.slab HF.out).mono ?_; rintro e w' ⟨rfl, rfl⟩) | (go_at_call 50; refine (remove_eq (HD.out.seg i hi) HS.out (by omega) x).mono ?_; rintro e w3 ⟨rfl, S', g, hr⟩))
  all_goals
    obtain ⟨O3, h3, f3, l3⟩ := HD.out.segTo hi g
    obtain ⟨ok3, _, _⟩ := OK.out.leave hi hr.1 HI.out (hr.keys HI.out)
    have H3 := Lib.hid h3
    have F3 := Lib.hid f3
    have L3 := Lib.hid l3
    have R3 := Lib.hid hr
    clear h3 f3 l3 g hr c0 ci
    go_wp2_with fail
    refine (gone_eq H3.out ok3 HX.out hn).mono ?_
    rintro e w4 ⟨rfl, t4⟩
    have T4 := Lib.hid t4
    clear t4
    go_wp2_with fail
    go_end0
    exact ⟨rfl, _, ⟨i, S', hi, HF.out, R3.out, HX.out, rfl⟩, DrTo.go F3.out.undrew L3.out T4.out⟩

end Go.Proofs.Ytpbbokpmlemboaa
