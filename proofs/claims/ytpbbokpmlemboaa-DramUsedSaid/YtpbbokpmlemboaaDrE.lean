/-
  dram: the contract of Get.
-/
import Derived.Test.YtpbbokpmlemboaaDrD
namespace Go.Proofs.Ytpbbokpmlemboaa
open Go.RowKit Sl

abbrev itV (z : It) : Value := .agg #[.string z.key, .string z.val, .int .u32 z.flags, .int .i64 z.exp, .int .u64 z.ver]
abbrev zeroI : It := ⟨⟨#[]⟩, ⟨#[]⟩, 0, 0, 0⟩
abbrev zeroJ : Array Value := #[.string ⟨#[]⟩, .string ⟨#[]⟩, .int .u32 0, .int .i64 0, .int .u64 0]

theorem box5 {w : World} {b : Nat} {v0 v1 v2 v3 v4 : Value} {t : TypeId} (h : w.heap[b]? = some (.cells #[v0, v1, v2, v3, v4] t (0, 0))) :
    w.cell? ⟨b, 0, none⟩ = some v0 ∧ w.cell? ⟨b, 1, none⟩ = some v1 ∧ w.cell? ⟨b, 2, none⟩ = some v2 ∧ w.cell? ⟨b, 3, none⟩ = some v3 ∧ w.cell? ⟨b, 4, none⟩ = some v4 ∧ ∀ j, w.frozen? ⟨b, j, none⟩ = false := by
  have g := fun j => cell_of_row w b j _ _ (0, 0) h
  exact ⟨g 0, g 1, g 2, g 3, g 4, fun j => frozen_of_row w b j _ _ h⟩

set_option maxRecDepth 100000 in
theorem field_item (a b c d e f : Value) (W : World) : (Instr.field 42 (.agg #[a, b, c, d, e, f]) 0).run Try.prog W = .ok (.agg #[a, b, c, d, e]) W := by
  kernel_rfl

section
variable {w : World} {P : DP} {O : Nat → Nat → Prop} {C : DC}

set_option maxHeartbeats 2000000 in
set_option maxRecDepth 100000 in
theorem get_none (h : DrIn w P O C) (ok : C.Ok) (k : ByteArray) (now : Int) (hs : k.size < 9223372036854775808) (hk : C.look k = none) :
    Calls Try.prog 12 #[.pointer (some ⟨P.c, 0, none⟩), .string k, .int .i64 now] w fun e w' => e = .returned (.tuple #[itV zeroI, .bool false]) ∧ DrTo w P O w' C := by
  have f1 : Fr Nob w (w.alloc (.cells zeroJ 33)) := (Fr.refl Nob w).alloc _
  have a1 := heap_alloc_new w (.cells zeroJ 33)
  have AP : Hid (∀ k, UO O k → k < w.heap.size) := Lib.hid fun k hk => h.ltU hk
  have H1 := Lib.hid (h.nob f1)
  have F1 := Lib.hid f1
  have OK := Lib.hid ok
  have HK := Lib.hid (ok.get_none hk)
  clear h ok f1 hk
  go_enter Try.func12, Try.ntmps12
  go_upto_region 1 with fail
  generalize w.alloc (.cells zeroJ 33) = w1 at *
  obtain ⟨c0, c1, cs, c8⟩ := H1.out.cells
  clear c0 cs
  go_wp2_with fail
  refine (tget_eq H1.out.tab OK.out.tk k hs HK.out.1 HK.out.2).mono ?_
  rintro e w2 ⟨rfl, m, rfl⟩
  have F2 := Lib.hid (F1.out.drewN m)
  have H2 := Lib.hid (H1.out.nob ((Fr.refl Nob w1).drewN m))
  replace a1 : (w1.drewN m).heap[w.heap.size]? = _ := a1
  clear c1 c8 F1 H1
  generalize w1.drewN m = w2 at *
  obtain ⟨p0, p1, p2, p3, p4, pz⟩ := box5 a1
  go_wp2_with fail
  have FB : Hid (Fr (One w.heap.size) w2 _) := Lib.hid (((((((Fr.refl (One w.heap.size) w2).set1 (o := 0) (.string ⟨#[]⟩)).set1 (o := 1) (.string ⟨#[]⟩)).set1 (o := 2) (.int .u32 0)).set1 (o := 3) (.int .i64 0)).set1 (o := 4) (.int .u64 0)))
  refine bodyPost_ret ?_ rfl ⟨rfl, O, H2.out.keep FB.out fun k hk e => by have h1 := AP.out k hk; have h2 : k = w.heap.size := e; omega, F2.out.nob.trans FB.out fun k hk e => by have : k = w.heap.size := e; omega, fun _ h => .inl h⟩
  rw [results_cellD rfl]
  go_simp

set_option maxHeartbeats 2000000 in
set_option maxRecDepth 100000 in
theorem get_dead (h : DrIn w P O C) (ok : C.Ok) (k : ByteArray) (now : Int) (hs : k.size < 9223372036854775808) (hn : C.S.length ≤ 150) {o : Ou} (hk : C.look k = some o) (hd : deadI o.1 now = true) :
    Calls Try.prog 12 #[.pointer (some ⟨P.c, 0, none⟩), .string k, .int .i64 now] w fun e w' => e = .returned (.tuple #[itV zeroI, .bool false]) ∧ ∃ C' x, Tb.getP C.T.m k = some x ∧ DropTo C x o C' ∧ DrTo w P O w' C' := by
  obtain ⟨x, h1, h2, h3, h4, h5⟩ := ok.get_some hk
  have f1 : Fr Nob w (w.alloc (.cells zeroJ 33)) := (Fr.refl Nob w).alloc _
  have a1 := heap_alloc_new w (.cells zeroJ 33)
  have AP : Hid (∀ b, w.heap.size ≤ b → ¬ UO O b) := Lib.hid fun b hb hk => by have := h.ltU hk; omega
  have H1 := Lib.hid (h.nob f1)
  have F1 := Lib.hid f1
  have OK := Lib.hid ok
  have HV := Lib.hid h4
  have HB := Lib.hid h5
  have HX := Lib.hid h3
  have HP := Lib.hid h2
  have HD := Lib.hid hd
  obtain ⟨⟨kk, v, fl, ex, ve⟩, cl⟩ := o
  clear h ok f1 hk h1 h2 h3 h4 h5 hd
  go_enter Try.func12, Try.ntmps12
  go_upto_region 1 with fail
  generalize w.alloc (.cells zeroJ 33) = w1 at *
  obtain ⟨c0, c1, cs, c8⟩ := H1.out.cells
  clear c0 cs
  go_wp2_with fail
  refine (tget_eq H1.out.tab OK.out.tk k hs HV.out HB.out).mono ?_
  rintro e w2 ⟨rfl, m, rfl⟩
  have F2 := Lib.hid (F1.out.drewN m)
  have H2 := Lib.hid (H1.out.nob ((Fr.refl Nob w1).drewN m))
  replace a1 : (w1.drewN m).heap[w.heap.size]? = _ := a1
  replace c8 : (w1.drewN m).cell? ⟨P.c, 8, none⟩ = _ := c8
  clear c1 F1 H1
  generalize w1.drewN m = w2 at *
  have FI := field_item (.string kk) (.string v) (.int .u32 fl) (.int .i64 ex) (.int .u64 ve) (.bool cl)
  go_wp2_with (at_lookup; (with_reducible refine wpList_lookupM rfl _ _ 60 rfl (int_key .i64) (val := outV) Try.underlying60 Try.underlying3 (out_zero _) H2.out.map rfl x rfl ?_); rw [HX.out]; dsimp only [outV, Option.getD_some])
  refine (dead_eq kk v fl ex ve now).mono ?_
  rintro e w3 ⟨rfl, f3⟩
  rw [HD.out]
  have n2 := lt_of_block a1
  have f3' : Fr Nob w2 w3 := ((Fr.refl Nob w2).alloc _).trans' f3
  have H3 := Lib.hid (H2.out.nob f3')
  have F3 := Lib.hid (F2.out.trans' f3')
  replace a1 := f3'.heap a1 fun h => h
  have n3 := Lib.hid (lt_of_block a1)
  clear f3 f3' F2 H2 c8 n2
  go_wp2_with fail
  refine (drop_eq H3.out OK.out HX.out hn).mono ?_
  rintro e w4 ⟨rfl, C', d, O4, h4, f4, l4⟩
  replace a1 := f4.heap a1 (AP.out _ (Nat.le_refl _))
  have D := Lib.hid d
  have H4 := Lib.hid h4
  have F4 := Lib.hid (F3.out.nob.trans f4 fun k hk h => h)
  have L4 := Lib.hid fun k hk => (l4 k hk).elim .inl fun h => Or.inr (Nat.le_trans F3.out.size h)
  have AP4 : Hid (¬ UO O4 w.heap.size) := Lib.hid fun h => (l4 _ h).elim (AP.out _ (Nat.le_refl _)) fun h => by have := n3.out; omega
  clear h4 f4 l4 H3 F3 d
  obtain ⟨p0, p1, p2, p3, p4, pz⟩ := box5 a1
  go_wp2_with fail
  have FB : Hid (Fr (One w.heap.size) w4 _) := Lib.hid (((((((Fr.refl (One w.heap.size) w4).set1 (o := 0) (.string ⟨#[]⟩)).set1 (o := 1) (.string ⟨#[]⟩)).set1 (o := 2) (.int .u32 0)).set1 (o := 3) (.int .i64 0)).set1 (o := 4) (.int .u64 0)))
  refine bodyPost_ret ?_ rfl ⟨rfl, C', x, HP.out, D.out, O4, H4.out.keep FB.out fun k hk e => AP4.out (by rw [← show k = w.heap.size from e]; exact hk), F4.out.trans FB.out fun k hk e => by have : k = w.heap.size := e; omega, L4.out⟩
  rw [results_cellD rfl]
  go_simp

set_option maxHeartbeats 4000000 in
set_option maxRecDepth 100000 in
theorem get_live (h : DrIn w P O C) (ok : C.Ok) (k : ByteArray) (now : Int) (hs : k.size < 9223372036854775808) (hn : C.S.length ≤ 150) {o : Ou} (hk : C.look k = some o) (hd : deadI o.1 now = false) :
    Calls Try.prog 12 #[.pointer (some ⟨P.c, 0, none⟩), .string k, .int .i64 now] w fun e w' => e = .returned (.tuple #[itV o.1, .bool true]) ∧ ∃ x, Tb.getP C.T.m k = some x ∧ getM C.M x = some o ∧ DrTo w P O w' (touchC C x) := by
  have few := ok.few
  obtain ⟨x, h1, h2, h3, h4, h5⟩ := ok.get_some hk
  have hx6 := taken_lt (ok.taken h3) (by omega)
  obtain ⟨i, hi, hof, hI⟩ := ok.cls_of h3
  have f1 : Fr Nob w (w.alloc (.cells zeroJ 33)) := (Fr.refl Nob w).alloc _
  have a1 := heap_alloc_new w (.cells zeroJ 33)
  have AP : Hid (∀ b, w.heap.size ≤ b → ¬ UO O b) := Lib.hid fun b hb hk => by have := h.ltU hk; omega
  have HT : Hid (touchC C x = ⟨C.S, C.T, upG C.G i ((C.G i).touched x), C.M⟩) := Lib.hid (by unfold touchC; rw [hof]; rfl)
  have H1 := Lib.hid (h.nob f1)
  have F1 := Lib.hid f1
  have OK := Lib.hid ok
  have HV := Lib.hid h4
  have HB := Lib.hid h5
  have HX := Lib.hid h3
  have HP := Lib.hid h2
  have HD := Lib.hid hd
  have HF := Lib.hid hof
  have HI := Lib.hid hI
  have i0 : (0 : Int) ≤ (i : Int) := by omega
  have i6 : (i : Int) < 6 := by omega
  have it : (i : Int).toNat = i := by omega
  obtain ⟨⟨kk, v, fl, ex, ve⟩, cl⟩ := o
  clear h ok f1 hk h1 h2 h3 h4 h5 hd hof hI
  go_enter Try.func12, Try.ntmps12
  go_upto_region 1 with fail
  generalize w.alloc (.cells zeroJ 33) = w1 at *
  obtain ⟨c0, c1, cs, c8⟩ := H1.out.cells
  clear c0 cs
  go_wp2_with fail
  refine (tget_eq H1.out.tab OK.out.tk k hs HV.out HB.out).mono ?_
  rintro e w2 ⟨rfl, m, rfl⟩
  have F2 := Lib.hid (F1.out.drewN m)
  have H2 := Lib.hid (H1.out.nob ((Fr.refl Nob w1).drewN m))
  replace a1 : (w1.drewN m).heap[w.heap.size]? = _ := a1
  replace c8 : (w1.drewN m).cell? ⟨P.c, 8, none⟩ = _ := c8
  clear c1 F1 H1
  generalize w1.drewN m = w2 at *
  have FI := field_item (.string kk) (.string v) (.int .u32 fl) (.int .i64 ex) (.int .u64 ve) (.bool cl)
  go_wp2_with (at_lookup; (with_reducible refine wpList_lookupM rfl _ _ 60 rfl (int_key .i64) (val := outV) Try.underlying60 Try.underlying3 (out_zero _) H2.out.map rfl x rfl ?_); rw [HX.out]; dsimp only [outV, Option.getD_some])
  refine (dead_eq kk v fl ex ve now).mono ?_
  rintro e w3 ⟨rfl, f3⟩
  rw [HD.out]
  have f2 : Fr Nob w2 (w2.alloc (.cells #[.string kk, .string v, .int .u32 fl, .int .i64 ex, .int .u64 ve] 33)) := (Fr.refl Nob w2).alloc _
  have a2 := f3.heap (heap_alloc_new w2 (.cells #[.string kk, .string v, .int .u32 fl, .int .i64 ex, .int .u64 ve] 33)) fun h => h
  have n2 := Lib.hid (lt_of_block a1)
  have f3' : Fr Nob w2 w3 := f2.trans' f3
  have F3 := Lib.hid (F2.out.trans' f3')
  replace a1 := f3'.heap a1 fun h => h
  have n3 := Lib.hid (lt_of_block a2)
  have H3 := Lib.hid (H2.out.nob f3')
  have HZ := Lib.hid ((H2.out.nob f3').nob (Fr.refl Nob w3).drew)
  obtain ⟨c0, c1, cs, c9⟩ := H3.out.cells
  have ci := cs i hi
  have ZS := Lib.hid ((OK.out.sg i hi))
  clear f3 f3' f2 F2 H2 c8 c1 cs c9
  go_wp2_with fail
  go_region_with (first | (go_at_call 33; refine (of_eq _ _ _ _ _ (i : Int) (by omega) HZ.out.slab HF.out).mono ?_; rintro e w' ⟨rfl, rfl⟩) | (go_at_call 34; refine (touch_eq (HZ.out.seg i hi) x).mono ?_; rintro e w4 ⟨rfl, g⟩))
  all_goals
    rw [if_pos HI.out] at g
    obtain ⟨O4, h4, f4, l4⟩ := HZ.out.segTo hi g
    rw [← HT.out] at h4
    replace a1 := f4.heap a1 (AP.out _ (Nat.le_refl _))
    replace a2 := f4.heap a2 (AP.out _ (Nat.le_of_lt n2.out))
    have H4 := Lib.hid h4
    have F4 := Lib.hid (F3.out.nob.trans f4.undrew fun k hk h => h)
    have L4 := Lib.hid fun k hk => (l4 k hk).elim .inl fun h => Or.inr (Nat.le_trans F3.out.size h)
    have AP4 : Hid (¬ UO O4 w.heap.size) := Lib.hid fun h => (l4 _ h).elim (AP.out _ (Nat.le_refl _)) fun h => by have := n3.out; have := n2.out; have : w3.heap.size ≤ w.heap.size := h; omega
    clear h4 f4 l4 H3 F3 g c0 ci HZ
    obtain ⟨p0, p1, p2, p3, p4, pz⟩ := box5 a1
    obtain ⟨g0, g1, g2, g3, g4, gz⟩ := box5 a2
    clear gz
    go_wp2_with fail
    have FB : Hid (Fr (One w.heap.size) w4 _) := Lib.hid (((((((Fr.refl (One w.heap.size) w4).set1 (o := 0) (.string kk)).set1 (o := 1) (.string v)).set1 (o := 2) (.int .u32 fl)).set1 (o := 3) (.int .i64 ex)).set1 (o := 4) (.int .u64 ve)))
    refine bodyPost_ret ?_ rfl ⟨rfl, x, HP.out, HX.out, O4, H4.out.keep FB.out fun k hk e => AP4.out (by rw [← show k = w.heap.size from e]; exact hk), F4.out.trans FB.out fun k hk e => by have : k = w.heap.size := e; omega, L4.out⟩
    rw [results_cellD rfl]
    go_simp
end
end Go.Proofs.Ytpbbokpmlemboaa
