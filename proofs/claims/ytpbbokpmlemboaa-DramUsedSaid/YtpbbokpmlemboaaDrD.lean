/-
  dram: contracts of Len, Dead, Peek, Delete.
-/
import Derived.Test.YtpbbokpmlemboaaDrB
namespace Go.Proofs.Ytpbbokpmlemboaa
open Go.RowKit Sl

section
variable {w : World} {P : DP} {O : Nat → Nat → Prop} {C : DC}
theorem dlen_eq (h : DrIn w P O C) : Calls Try.prog 16 #[.pointer (some ⟨P.c, 0, none⟩)] w fun e w' => e = .returned (.int .i64 (C.M.length : Int)) ∧ w = w' := by
  obtain ⟨c0, c1, cs, c8⟩ := h.cells
  have H := Lib.hid h
  clear c0 c1 cs h
  go_enter Try.func16, Try.ntmps16
  go_wp2_with (at_len; refine wpList_lenM rfl _ _ rfl Try.underlying60 H.out.map rfl ?_)
  go_ret
  exact ⟨rfl, rfl⟩

set_option maxHeartbeats 2000000 in
set_option maxRecDepth 100000 in
theorem dead_eq {q : Option Addr} (k v : ByteArray) (fl ex ve now : Int) :
    Calls Try.prog 14 #[.pointer q, .agg #[.string k, .string v, .int .u32 fl, .int .i64 ex, .int .u64 ve], .int .i64 now] w fun e w' => e = .returned (.bool (deadI ⟨k, v, fl, ex, ve⟩ now)) ∧ Fr Nob w w' := by
  have f1 : Hid (Fr Nob w (w.alloc (.cells #[.string k, .string v, .int .u32 fl, .int .i64 ex, .int .u64 ve] 33))) := Lib.hid ((Fr.refl Nob w).alloc _)
  unfold deadI
  by_cases h1 : ex = 0
  · subst h1
    go_enter Try.func14, Try.ntmps14
    go_wp2_with fail
    go_ret
    exact ⟨ret_bool (by simp), f1.out⟩
  · have h1' : (ex == 0) = false := by simpa using h1
    by_cases h2 : ex ≤ now
    · go_enter Try.func14, Try.ntmps14
      go_wp2_with fail
      go_ret
      exact ⟨ret_bool (by simp [h1, h2]), f1.out⟩
    · go_enter Try.func14, Try.ntmps14
      go_wp2_with fail
      go_ret
      exact ⟨ret_bool (by simp [h2]), f1.out⟩

theorem DC.OkBut.get_none (h : C.Ok) {k : ByteArray} (hk : C.look k = none) : Tb.getV C.T.m k = 0 ∧ Tb.getB C.T.m k = false := by
  have := (h.look_none (k := k)).1 hk
  unfold Tb.getV Tb.getB
  rw [this]
  exact ⟨rfl, rfl⟩
theorem DC.OkBut.get_some (h : C.Ok) {k : ByteArray} {o : Ou} (hk : C.look k = some o) : ∃ x, o.1.key = k ∧ Tb.getP C.T.m k = some x ∧ getM C.M x = some o ∧ Tb.getV C.T.m k = x ∧ Tb.getB C.T.m k = true := by
  obtain ⟨h1, x, h2, h3⟩ := h.look_key hk
  refine ⟨x, h1, h2, h3, ?_, ?_⟩
  · unfold Tb.getV; rw [h2]; rfl
  · unfold Tb.getB; rw [h2]; rfl

theorem tget_eq {w : World} {W t : Nat} {K : Nat → Prop} {S : Tb.KT} (s : Tb.TabIn w W t K S) (ok : S.Ok) (k : ByteArray) (hs : k.size < 9223372036854775808) {x : Int} {b : Bool} (h1 : Tb.getV S.m k = x) (h2 : Tb.getB S.m k = b) :
    Calls Try.prog 31 #[.pointer (some ⟨t, 0, none⟩), .string k] w fun e w' => e = .returned (.tuple #[.int .i64 x, .bool b]) ∧ ∃ m, w' = w.drewN m := by
  rw [← h1, ← h2]
  exact Tb.get_eq s ok k hs

theorem results_cellD {fn : Func} {p q : Tmp} {ty : TypeId} (h : fn.results = #[.cell p ty, .tmp q]) (tmps : Array Value) (P : Program) (w : World) :
    (results fn tmps).run P w = ((asAddr (tmps.getD p undef)).run P w).andThen fun a w₁ => ((loadVar ty a).run P w₁).andThen fun v w₂ => .ok (.tuple #[v, tmps.getD q undef]) w₂ := by
  simp only [results, h]
  simp [Result.andThen]

set_option maxHeartbeats 2000000 in
set_option maxRecDepth 100000 in
theorem peek_none (h : DrIn w P O C) (ok : C.Ok) (k : ByteArray) (hs : k.size < 9223372036854775808) (hk : C.look k = none) :
    Calls Try.prog 15 #[.pointer (some ⟨P.c, 0, none⟩), .string k] w fun e w' => e = .returned (.tuple #[outV zeroO, .bool false]) ∧ Fr Nob w w' := by
  have f1 : Fr Nob w (w.alloc (.cells zeroC 42)) := (Fr.refl Nob w).alloc _
  have a1 := heap_alloc_new w (.cells zeroC 42)
  have H1 := Lib.hid (h.nob f1)
  have F1 := Lib.hid f1
  have OK := Lib.hid ok
  have HK := Lib.hid (ok.get_none hk)
  clear h ok f1 hk
  go_enter Try.func15, Try.ntmps15
  go_upto_region 1 with fail
  generalize w.alloc (.cells zeroC 42) = w1 at *
  obtain ⟨c0, c1, cs, c8⟩ := H1.out.cells
  clear c0 cs
  go_wp2_with fail
  refine (tget_eq H1.out.tab OK.out.tk k hs HK.out.1 HK.out.2).mono ?_
  rintro e w2 ⟨rfl, m, rfl⟩
  have F2 := Lib.hid (F1.out.drewN m)
  replace a1 : (w1.drewN m).heap[w.heap.size]? = _ := a1
  clear c1 c8 F1 H1
  generalize w1.drewN m = w2 at *
  obtain ⟨p0, p1, p2, p3, p4, p5, pz⟩ := box6 a1
  go_wp2_with fail
  have FB : Hid (Fr (One w.heap.size) w2 _) := Lib.hid ((((((((Fr.refl (One w.heap.size) w2).set1 (o := 0) (.string ⟨#[]⟩)).set1 (o := 1) (.string ⟨#[]⟩)).set1 (o := 2) (.int .u32 0)).set1 (o := 3) (.int .i64 0)).set1 (o := 4) (.int .u64 0)).set1 (o := 5) (.bool false)))
  refine bodyPost_ret ?_ rfl ⟨rfl, F2.out.trans FB.out fun k hk e => by have : k = w.heap.size := e; omega⟩
  rw [results_cellD rfl]
  go_simp
  exact ⟨rfl, rfl, rfl, rfl, rfl, rfl⟩

set_option maxHeartbeats 2000000 in
set_option maxRecDepth 100000 in
theorem peek_some (h : DrIn w P O C) (ok : C.Ok) (k : ByteArray) (hs : k.size < 9223372036854775808) {o : Ou} (hk : C.look k = some o) :
    Calls Try.prog 15 #[.pointer (some ⟨P.c, 0, none⟩), .string k] w fun e w' => e = .returned (.tuple #[outV o, .bool true]) ∧ Fr Nob w w' := by
  obtain ⟨x, h1, h2, h3, h4, h5⟩ := ok.get_some hk
  have f1 : Fr Nob w (w.alloc (.cells zeroC 42)) := (Fr.refl Nob w).alloc _
  have a1 := heap_alloc_new w (.cells zeroC 42)
  have H1 := Lib.hid (h.nob f1)
  have F1 := Lib.hid f1
  have OK := Lib.hid ok
  have HV := Lib.hid h4
  have HB := Lib.hid h5
  have HX := Lib.hid h3
  obtain ⟨⟨kk, v, fl, ex, ve⟩, cl⟩ := o
  clear h ok f1 hk h1 h2 h3 h4 h5
  go_enter Try.func15, Try.ntmps15
  go_upto_region 1 with fail
  generalize w.alloc (.cells zeroC 42) = w1 at *
  obtain ⟨c0, c1, cs, c8⟩ := H1.out.cells
  clear c0 cs
  go_wp2_with fail
  refine (tget_eq H1.out.tab OK.out.tk k hs HV.out HB.out).mono ?_
  rintro e w2 ⟨rfl, m, rfl⟩
  have F2 := Lib.hid (F1.out.drewN m)
  have H2 := Lib.hid (H1.out.nob ((Fr.refl Nob w1).drewN m))
  replace a1 : (w1.drewN m).heap[w.heap.size]? = _ := a1
  replace c8 : (w1.drewN m).cell? ⟨P.c, 8, none⟩ = _ := c8
  clear c1 F1 H1
  generalize w1.drewN m = w2 at *
  obtain ⟨p0, p1, p2, p3, p4, p5, pz⟩ := box6 a1
  go_wp2_with (at_lookup; (with_reducible refine wpList_lookupM rfl _ _ 60 rfl (int_key .i64) (val := outV) Try.underlying60 Try.underlying3 (out_zero _) H2.out.map rfl x rfl ?_); rw [HX.out])
  have FB : Hid (Fr (One w.heap.size) w2 _) := Lib.hid ((((((((Fr.refl (One w.heap.size) w2).set1 (o := 0) (.string kk)).set1 (o := 1) (.string v)).set1 (o := 2) (.int .u32 fl)).set1 (o := 3) (.int .i64 ex)).set1 (o := 4) (.int .u64 ve)).set1 (o := 5) (.bool cl)))
  refine bodyPost_ret ?_ rfl ⟨rfl, F2.out.trans FB.out fun k hk e => by have : k = w.heap.size := e; omega⟩
  rw [results_cellD rfl]
  go_simp

def isS (o : Option Ou) : Bool := o.isSome
set_option maxHeartbeats 2000000 in
set_option maxRecDepth 100000 in
theorem ddel_eq (h : DrIn w P O C) (ok : C.Ok) (k : ByteArray) (hs : k.size < 9223372036854775808) (hn : C.S.length ≤ 150) :
    Calls Try.prog 13 #[.pointer (some ⟨P.c, 0, none⟩), .string k] w fun e w' => e = .returned (.bool (isS (C.look k))) ∧ ∃ C', DelTo C k C' ∧ DrTo w P O w' C' := by
  obtain ⟨c0, c1, cs, c8⟩ := h.cells
  have H := Lib.hid h
  have OK := Lib.hid ok
  cases hk : C.look k with
  | none =>
    have HK := Lib.hid (ok.get_none hk)
    have HN := Lib.hid ((ok.look_none (k := k)).1 hk)
    have HS : Hid (isS none = false) := Lib.hid rfl
    clear c0 cs h ok hk c8
    go_enter Try.func13, Try.ntmps13
    go_wp2_with fail
    refine (tget_eq H.out.tab OK.out.tk k hs HK.out.1 HK.out.2).mono ?_
    rintro e w2 ⟨rfl, m, rfl⟩
    go_wp2_with fail
    go_ret
    exact ⟨rfl, C, .inl ⟨HN.out, rfl⟩, DrTo.plus (DrTo.refl H.out) ((Fr.refl Nob w).drewN m)⟩
  | some o =>
    obtain ⟨x, h1, h2, h3, h4, h5⟩ := ok.get_some hk
    have HV := Lib.hid h4
    have HB := Lib.hid h5
    have HX := Lib.hid h3
    have HP := Lib.hid h2
    clear c0 cs h ok hk c8 h1 h2 h3 h4 h5
    go_enter Try.func13, Try.ntmps13
    go_wp2_with fail
    refine (tget_eq H.out.tab OK.out.tk k hs HV.out HB.out).mono ?_
    rintro e w2 ⟨rfl, m, rfl⟩
    go_wp2_with fail
    refine (drop_eq (H.out.nob ((Fr.refl Nob w).drewN m)) OK.out HX.out hn).mono ?_
    rintro e w3 ⟨rfl, C', d, t⟩
    have D := Lib.hid d
    have T := Lib.hid t
    clear d t
    go_wp2_with fail
    go_ret
    exact ⟨rfl, C', .inr ⟨x, o, HP.out, D.out⟩, T.out.ahead ((Fr.refl Nob w).drewN m)⟩
end
end Go.Proofs.Ytpbbokpmlemboaa
