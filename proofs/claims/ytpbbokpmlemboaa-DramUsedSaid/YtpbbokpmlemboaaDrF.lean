/-
  dram: the contract of Put.
-/
import Derived.Test.YtpbbokpmlemboaaDrC
import Derived.Test.YtpbbokpmlemboaaDrE
import Derived.Deep.LoopGhost
namespace Go.Proofs.Ytpbbokpmlemboaa
open Go.RowKit Sl

/-- The cells of a list of things. -/
def outsV : List Ou → List Value
  | [] => []
  | o :: l => [.string o.1.key, .string o.1.val, .int .u32 o.1.flags, .int .i64 o.1.exp, .int .u64 o.1.ver, .bool o.2] ++ outsV l
theorem outsV_len : ∀ l : List Ou, (outsV l).length = l.length * 6
  | [] => rfl
  | o :: l => by simp [outsV, outsV_len l]; omega
theorem outsV_app : ∀ l m : List Ou, outsV (l ++ m) = outsV l ++ outsV m
  | [], m => rfl
  | o :: l, m => by simp [outsV, outsV_app l m]
theorem out_info : (Try.prog.info? 42).map (fun i => (i.zero.map Value.cells, i.size, i.bytes)) = some (some zeroC, 6, 64) := by kernel_rfl

/-- A row of things that a call of the cache's has made: no part of the cache. -/
structure OutRow (w : World) (base : Nat) (O : Nat → Nat → Prop) (v : Value) (os : List Ou) : Prop where
  row : w.ownsRow base 42 6 v os.length (outsV os)
  off : ∀ k, v.ownBlock = some k → ¬ UO O k

theorem row_base6 {w : World} {base B : Nat} {e : TypeId} {size : Nat} {v : Value} {n : Nat} {xs : List Value} (hB : B ≤ base) (h : w.ownsRow base e size v n xs) : w.ownsRow B e size v n xs := by
  obtain ⟨h0, h | ⟨g, cap, cur, h1, h3, h2⟩⟩ := h
  · exact ⟨h0, .inl h⟩
  · exact ⟨h0, .inr ⟨g, cap, cur, h1, Nat.le_trans hB h3, h2⟩⟩

structure PutLp (w : World) (P : DP) (O : Nat → Nat → Prop) (cl : Nat) (Cd : DC) (cs : Array Value) (wr : World) (v : Value) (os : List Ou) (C1 : DC) (O1 : Nat → Nat → Prop) : Prop where
  inn : DrIn wr P O1 ⟨takeS C1.S cl, C1.T, C1.G, C1.M⟩
  ok : C1.Ok
  sl : C1.S.length = Cd.S.length
  lets : ∀ os' C', Lets cl C1 os' C' → Lets cl Cd (os ++ os') C'
  row : OutRow wr (w.heap.size + 1) O1 v os
  box : wr.heap[w.heap.size]? = some (.cells cs 33 (0, 0))
  nob : ¬ UO O1 w.heap.size
  fr : Fr (UO O) w wr
  low : ∀ k, UO O1 k → UO O k ∨ w.heap.size ≤ k
  len : os.length + C1.M.length = Cd.M.length

theorem take_same {S : List Pg} {c : Nat} (hc : c < 6) (h : takeE S (c : Int) = 7) : takeS S (c : Int) = S ∧ slot S (c : Int) = none := by
  have hin : inCls (c : Int) = true := by simp [inCls]; omega
  cases hs : slot S (c : Int) with
  | none => exact ⟨(take_full hin hs).1, rfl⟩
  | some i => rw [(take_slot hin hs).2.2] at h; cases h
theorem DC.OkBut.full {C : DC} (h : C.Ok) {c : Nat} (hc : c < 6) (he : takeE C.S (c : Int) = 7) : C.S.length ≤ C.M.length := by
  have h2 := usSum_ge (slot_none_us h.pg (take_same hc he).2)
  have := h.sum
  omega

theorem good_parts {z : It} (h : goodI z = true) : 1 ≤ z.key.size ∧ z.key.size ≤ 250 ∧ z.val.size ≤ 1024 ∧ 0 < z.ver := by
  unfold goodI at h
  simpa [and_assoc] using h
theorem good_class {z : It} (h : goodI z = true) : ∃ cl : Nat, cl < 6 ∧ classOf (sizeI z) = ((cl : Nat) : Int) := by
  obtain ⟨h1, h2, h3, h4⟩ := good_parts h
  obtain ⟨a, b, _⟩ := classOf_in (x := (sizeI z : Int)) (by omega) (by unfold sizeI; omega)
  exact ⟨(classOf (sizeI z)).toNat, by omega, by omega⟩

section
variable {w : World} {P : DP} {O : Nat → Nat → Prop} {C : DC}
set_option maxHeartbeats 2000000 in
set_option maxRecDepth 100000 in
theorem put_bad {q : Option Addr} (k v : ByteArray) (fl ex ve : Int) (b : Bool) (hg : goodI ⟨k, v, fl, ex, ve⟩ = false) :
    Calls Try.prog 11 #[.pointer q, .agg #[.string k, .string v, .int .u32 fl, .int .i64 ex, .int .u64 ve], .bool b] w fun e w' => e = .returned (.tuple #[.slice none 0 0, .int .i64 1]) ∧ Fr Nob w w' := by
  have f1 : Fr Nob w (w.alloc (.cells #[.string k, .string v, .int .u32 fl, .int .i64 ex, .int .u64 ve] 33)) := (Fr.refl Nob w).alloc _
  have HG := Lib.hid hg
  have F1 := Lib.hid f1
  clear f1 hg
  go_enter Try.func11, Try.ntmps11
  go_wp2_with fail
  refine (rgood_eq k v fl ex ve).mono ?_
  rintro e w2 ⟨rfl, f2⟩
  rw [HG.out]
  have F2 := Lib.hid (F1.out.trans' f2)
  clear f2
  go_wp2_with fail
  go_ret2
  exact ⟨rfl, F2.out⟩

set_option maxHeartbeats 8000000 in
set_option maxRecDepth 100000 in
theorem put_good (h : DrIn w P O C) (ok : C.Ok) (k v : ByteArray) (fl ex ve : Int) (b : Bool) (hg : goodI ⟨k, v, fl, ex, ve⟩ = true) (h1 : 1 ≤ C.S.length) (hn : C.S.length ≤ 150) :
    Calls Try.prog 11 #[.pointer (some ⟨P.c, 0, none⟩), .agg #[.string k, .string v, .int .u32 fl, .int .i64 ex, .int .u64 ve], .bool b] w fun e w' => ∃ r os C' O', e = .returned (.tuple #[r, .int .i64 0]) ∧
      PutTo C ⟨k, v, fl, ex, ve⟩ b os C' ∧ DrIn w' P O' C' ∧ OutRow w' w.heap.size O' r os ∧ Fr (UO O) w w' ∧ ∀ k, UO O' k → UO O k ∨ w.heap.size ≤ k := by
  obtain ⟨g1, g2, g3, g4⟩ := good_parts hg
  have hks : k.size < 9223372036854775808 := by have : k.size ≤ 250 := g2; omega
  obtain ⟨cl, hc, hcl⟩ := good_class hg
  have few := ok.few
  have f1 : Fr Nob w (w.alloc (.cells #[.string k, .string v, .int .u32 fl, .int .i64 ex, .int .u64 ve] 33)) := (Fr.refl Nob w).alloc _
  have a1 := heap_alloc_new w (.cells #[.string k, .string v, .int .u32 fl, .int .i64 ex, .int .u64 ve] 33)
  have AP : Hid (∀ b, w.heap.size ≤ b → ¬ UO O b) := Lib.hid fun b hb hk => by have := h.ltU hk; omega
  have H1 := Lib.hid (h.nob f1)
  have F1 := Lib.hid f1
  have OK := Lib.hid ok
  have HG := Lib.hid hg
  have HC := Lib.hid hcl
  have HSZ : Hid (classOf (32 + (k.size : Int) + (v.size : Int)) = (cl : Int)) := Lib.hid (by
    have e : (32 + (k.size : Int) + (v.size : Int)) = ((32 + k.size + v.size : Nat) : Int) := by omega
    rw [e]
    exact hcl)
  have ks : k.size ≤ 1000000000 := by have : k.size ≤ 250 := g2; omega
  have vs : v.size ≤ 1000000000 := by have : v.size ≤ 1024 := g3; omega
  have k0 : (0 : Int) ≤ (cl : Int) := by omega
  have k6 : (cl : Int) < 6 := by omega
  have kt : (cl : Int).toNat = cl := by omega
  clear f1 hg ok h hcl g1 g2 g3 g4
  go_enter Try.func11, Try.ntmps11
  go_upto_region 1 with fail
  generalize w.alloc (.cells #[.string k, .string v, .int .u32 fl, .int .i64 ex, .int .u64 ve] 33) = w1 at *
  obtain ⟨p0, p1, p2, p3, p4, pz⟩ := box5 a1
  go_wp2_with fail
  refine (rgood_eq k v fl ex ve).mono ?_
  rintro e w2 ⟨rfl, f2⟩
  rw [HG.out]
  replace a1 := f2.heap a1 fun h => h
  have n1 := lt_of_block a1
  have H2 := Lib.hid (H1.out.nob f2)
  have F2 := Lib.hid (F1.out.trans' f2)
  clear f2 H1 F1 p0 p1 p2 p3 p4 pz
  obtain ⟨p0, p1, p2, p3, p4, pz⟩ := box5 a1
  clear p1 p2 p3 p4
  go_wp2_with fail
  refine (ddel_eq H2.out OK.out k hks hn).mono ?_
  rintro e w3 ⟨rfl, Cd, d, O3, h3, f3, l3⟩
  clear p0 pz
  replace a1 := f3.heap a1 (AP.out _ (Nat.le_refl _))
  have dt := d.told OK.out
  have HDel := Lib.hid d
  have OKd := Lib.hid dt.ok
  have SLd : Cd.S.length = C.S.length := dt.sl
  have HLk : Hid (Cd.look k = none) := Lib.hid (by rw [dt.look, if_pos rfl])
  have H3 := Lib.hid h3
  have F3 := Lib.hid (F2.out.nob.trans f3 fun k hk h => h)
  have L3 := Lib.hid fun k hk => (l3 k hk).elim .inl fun h => Or.inr (Nat.le_trans F2.out.size h)
  have NB3 : Hid (¬ UO O3 w.heap.size) := Lib.hid fun h => (l3 _ h).elim (AP.out _ (Nat.le_refl _)) fun h => by omega
  have B3 := Lib.hid a1
  clear f3 l3 h3 d dt F2 H2 n1
  obtain ⟨p0, p1, p2, p3, p4, pz⟩ := box5 a1
  clear a1
  go_wp2_with fail
  refine (rsize_eq k v fl ex ve ks vs).mono ?_
  rintro e w4 ⟨rfl, f4⟩
  have H4 := Lib.hid (H3.out.nob f4)
  have F4 := Lib.hid (F3.out.trans f4 fun k hk h => h.elim)
  have B4 := Lib.hid (f4.heap B3.out fun h => h)
  clear f4 H3 F3 B3 p0 p1 p2 p3 p4 pz
  go_wp2_with fail
  refine (class_ok _ _).mono ?_
  rintro e w' ⟨rfl, rfl⟩
  rw [HSZ.out]
  obtain ⟨c0, c1, cs, c8⟩ := H4.out.cells
  clear c1 cs c8
  go_wp2_with fail
  refine (take_eq _ _ _ _ _ _ _ H4.out.slab rfl rfl).mono ?_
  rintro e w5 ⟨rfl, s5, f5⟩
  have START : Hid (PutLp w P O cl Cd #[.string k, .string v, .int .u32 fl, .int .i64 ex, .int .u64 ve] w5 (.slice none 0 0) [] Cd O3) := Lib.hid
    ⟨H4.out.slabIn s5.out f5.out, OKd.out, rfl, fun _ _ h => h, ⟨World.ownsRow_nil _ _ _ _, fun k h => by cases h⟩, f5.out.heap B4.out fun h => NB3.out (H4.out.slabU _ h), NB3.out, F4.out.trans f5.out fun k hk h => (L3.out k (H4.out.slabU k h)).elim id fun h => by omega, L3.out, by simp⟩
  clear s5 f5 H4 F4 B4 c0 NB3 L3
  go_wp2_with fail
  go_loopg [8, 10, 11, 12, 13] (Cd.M.length + 1) (fun gk r t10 t11 _ _ wr => ∃ C1 O1 os, gk = C1.M.length + 1 ∧ t10 = .int .i64 (takeN C1.S cl) ∧ t11 = .int .i64 (takeE C1.S cl) ∧ Hid (PutLp w P O cl Cd #[.string k, .string v, .int .u32 fl, .int .i64 ex, .int .u64 ve] wr r os C1 O1))
  case atStart => exact ⟨Cd, O3, [], rfl, rfl, rfl, START⟩
  case round =>
    clear START
    obtain ⟨C1, O1, os, rfl, rfl, rfl, Q⟩ := hrel
    rcases take_sevens (S := C1.S) (c := (cl : Int)) k0 k6 with he | ⟨he, hs⟩
    · have LT : Hid (Lets cl Cd os C1) := Lib.hid (by have := Q.out.lets [] C1 (.done he); rwa [List.append_nil] at this)
      have tot := Q.out.ok.tot hc
      have few1 := Q.out.ok.few
      have ln1 := Q.out.ok.ln
      have sl1 := Q.out.sl
      have HD := Lib.hid (Q.out.inn.nob (Fr.refl Nob wr).drew)
      obtain ⟨c0, c1, cs, c8⟩ := Q.out.inn.cells
      have a1 := Q.out.box
      obtain ⟨p0, p1, p2, p3, p4, pz⟩ := box5 a1
      obtain ⟨n, hN⟩ : ∃ n, takeN C1.S cl = n := ⟨_, rfl⟩
      have HN := Lib.hid hN
      rw [hN, he]
      have hrun := run_updateM (P := Try.prog) (int_key .i64) Try.underlying60 Try.underlying3 HD.out.map n ((⟨k, v, fl, ex, ve⟩ : It), b)
      obtain ⟨w5, RU, m5, f5⟩ := hrun
      have M5 := Lib.hid m5
      have F5 := Lib.hid f5
      clear c0 c1 cs m5 f5 hN he
      go_wp2_with fail
      go_region
      have B5 := Lib.hid (F5.out.heap (show wr.drew.heap[w.heap.size]? = _ from a1) fun h => Q.out.nob (Q.out.inn.mapU _ h))
      have H5 := Lib.hid (HD.out.mapIn M5.out F5.out)
      have G5 := Lib.hid ((F5.out.mono (S' := UO O1) fun k _ hk => Q.out.inn.mapU k hk).undrew)
      clear c8 a1 p0 p1 p2 p3 p4 pz RU M5 F5 HD
      have HD5 := Lib.hid (H5.out.nob (Fr.refl Nob w5).drew)
      have HSET := Lib.hid (Tb.set_eq (S := C1.T) HD5.out.tab Q.out.ok.tk k n hks (by omega))
      obtain ⟨c0, c1, cs, c8⟩ := H5.out.cells
      obtain ⟨p0, p1, p2, p3, p4, pz⟩ := box5 B5.out
      clear c0 cs c8 p1 p2 p3 p4 pz
      go_wp2_with fail
      go_region_with (go_at_call 29; refine HSET.out.mono ?_; rintro e w6 ⟨rfl, g⟩)
      all_goals
        obtain ⟨O6, h6, f6, l6⟩ := HD5.out.tabTo g
        have H6 := Lib.hid h6
        have G6 := Lib.hid (G5.out.trans f6.undrew fun k hk h => h)
        have L6 := Lib.hid fun k hk => (l6 k hk).elim .inl fun h => Or.inr (Nat.le_trans G5.out.size h)
        clear h6 f6 l6 g HD5 H5 c1 p0
        obtain ⟨c0, c1, cs, c8⟩ := H6.out.cells
        have ci := cs cl hc
        clear c0 c1 cs c8
        go_wp2_with fail
        refine (add_eq (H6.out.seg cl hc) (Q.out.ok.sg cl hc) (by show (C1.G cl).tot ≤ 10000; omega) n).mono ?_
        rintro e w7 ⟨rfl, S', g, ha⟩
        obtain ⟨O7, h7, f7, l7⟩ := H6.out.segTo hc g
        have H7 := Lib.hid h7
        have G7 := Lib.hid (G6.out.trans f7 fun k hk h => (L6.out k h).elim id fun h => by omega)
        have L7 := Lib.hid fun k hk => (l7 k hk).elim (fun h => L6.out k h) fun h => Or.inr (Nat.le_trans G6.out.size h)
        have HA := Lib.hid ha
        clear h7 f7 l7 g ha H6 ci
        go_wp2_with fail
        go_ret2
        refine ⟨_, os, _, O7, rfl, ⟨Cd, C1, S', cl, hc, HC.out, HDel.out, LT.out, by rw [HN.out]; exact HA.out, rfl⟩, by rw [HN.out]; exact H7.out, ⟨row_base6 (by omega) (G7.out.ownsRow Q.out.row.row Q.out.row.off), fun k hk hu => ?_⟩, Q.out.fr.trans G7.out fun k hk h => (Q.out.low k h).elim id fun h => by omega, fun k hk => (L7.out k hk).elim (fun h => Q.out.low k h) fun h => Or.inr (Nat.le_trans Q.out.fr.size h)⟩
        rcases L7.out k hu with h | h
        · exact Q.out.row.off k hk h
        · have := (Q.out.row.row.lt k hk).2
          omega
    · have same := (take_same hc he).1
      have H1 : Hid (DrIn wr P O1 C1) := Lib.hid (by have := Q.out.inn; rw [same] at this; exact this)
      have sl1 := Q.out.sl
      have full := Q.out.ok.full hc he
      have few1 := Q.out.ok.few
      have hln := Q.out.len
      have hn1 : C1.S.length ≤ 150 := by omega
      have hos : os.length ≤ 9600 := by have := OKd.out.few; omega
      have HE := Lib.hid he
      rw [he]
      clear same hs he
      go_wp2_with fail
      refine (let_eq H1.out Q.out.ok hc (by omega) hn1).mono ?_
      rintro e w2 ⟨o, C2, rfl, lt, O2, h2, f2, l2⟩
      obtain ⟨x, rid⟩ := lt.rid hc Q.out.ok
      have hlen2 := rid.len Q.out.ok
      have OK2 := Lib.hid rid.ok
      have SL2 : C2.S.length = C1.S.length := rid.sl
      have LT2 : Hid (∀ os' C', Lets cl C2 os' C' → Lets cl Cd ((os ++ [o]) ++ os') C') := Lib.hid fun os' C' hl => by
        rw [List.append_assoc]
        exact Q.out.lets _ _ (.more HE.out lt hl)
      have n1 := lt_of_block Q.out.box
      have B2 := Lib.hid (f2.heap Q.out.box Q.out.nob)
      have R2 := Lib.hid (f2.ownsRow Q.out.row.row Q.out.row.off)
      have NB2 : Hid (¬ UO O2 w.heap.size) := Lib.hid fun h => (l2 _ h).elim Q.out.nob fun h => by omega
      have RO2 : Hid (∀ k, u8.ownBlock = some k → ¬ UO O2 k) := Lib.hid fun k hk h => (l2 _ h).elim (Q.out.row.off k hk) fun h => by have := (Q.out.row.row.lt k hk).2; omega
      have H2 := Lib.hid h2
      have F2 := Lib.hid (Q.out.fr.trans f2 fun k hk h => (Q.out.low k h).elim id fun h => by omega)
      have L2 := Lib.hid fun k hk => (l2 k hk).elim (fun h => Q.out.low k h) fun h => Or.inr (Nat.le_trans Q.out.fr.size h)
      have Z2 : Hid (w.heap.size + 1 ≤ w2.heap.size) := Lib.hid (by have := f2.size; omega)
      obtain ⟨⟨k', v', fl', ex', ve'⟩, b'⟩ := o
      clear h2 f2 l2 lt rid H1 n1 HE Q
      go_upto_region 9 with fail
      have f3 : Fr Nob w2 (w2.alloc (.cells #[.string k', .string v', .int .u32 fl', .int .i64 ex', .int .u64 ve', .bool b'] 42)) := (Fr.refl Nob w2).alloc _
      have a3 := heap_alloc_new w2 (.cells #[.string k', .string v', .int .u32 fl', .int .i64 ex', .int .u64 ve', .bool b'] 42)
      have F3 := Lib.hid f3
      generalize w2.alloc (.cells #[.string k', .string v', .int .u32 fl', .int .i64 ex', .int .u64 ve', .bool b'] 42) = w3 at *
      obtain ⟨p0, p1, p2, p3, p4, p5, pz⟩ := box6 a3
      have fb := (Fr.refl Nob w3).alloc (.cells #[.string k', .string v', .int .u32 fl', .int .i64 ex', .int .u64 ve', .bool b'] 42)
      have h24 := heap_alloc_new w3 (.cells #[.string k', .string v', .int .u32 fl', .int .i64 ex', .int .u64 ve', .bool b'] 42)
      have F4 := Lib.hid (F3.out.trans' fb)
      have R4 := Lib.hid (F4.out.ownsRow R2.out fun _ _ h => h)
      have NEWS : Hid (∀ (i : Nat) (u : Value), [Value.string k', .string v', .int .u32 fl', .int .i64 ex', .int .u64 ve', .bool b'][i]? = some u → (w3.alloc (.cells #[.string k', .string v', .int .u32 fl', .int .i64 ex', .int .u64 ve', .bool b'] 42)).cell? ((⟨w3.heap.size, 0, none⟩ : Addr).add i) = some u) := Lib.hid fun i u h => by
        rw [Addr.add_lit, Nat.zero_add, cell_of_row _ w3.heap.size i _ _ (0, 0) h24, ← Array.getElem?_toList]
        exact h
      have ONE : Hid (∀ u ∈ [Value.string k', .string v', .int .u32 fl', .int .i64 ex', .int .u64 ve', .bool b'], u.oneCell' = true) := Lib.hid fun u hu => by
        simp only [List.mem_cons, List.not_mem_nil, or_false] at hu
        rcases hu with rfl | rfl | rfl | rfl | rfl | rfl <;> rfl
      have hbase : w.heap.size + 1 ≤ (w3.alloc (.cells #[.string k', .string v', .int .u32 fl', .int .i64 ex', .int .u64 ve', .bool b'] 42)).heap.size := Nat.le_trans Z2.out F4.out.size
      clear fb h24 f3 a3 pz
      go_wp2_with (with_reducible refine wpList_app (o := ⟨some 48, _, _, _, _, _⟩) rfl (.tmp 45) (.tmp 47) 27 rfl 42 zeroC 6 64 Try.underlying27 out_info rfl (by omega) (w.heap.size + 1) u8 os.length (outsV os) rfl R4.out ⟨w3.heap.size, 0, none⟩ 1 1 [.string k', .string v', .int .u32 fl', .int .i64 ex', .int .u64 ve', .bool b'] rfl rfl NEWS.out ONE.out (by omega) (by omega) hbase ?_)
      intro r' w5 o6 f6 hor
      have F5 := Lib.hid (F4.out.nob.trans f6.out fun k _ h => h)
      have H5 := Lib.hid (H2.out.keep F5.out fun k hk h => RO2.out k h hk)
      have B5 := Lib.hid (F5.out.heap B2.out fun h => by have := (R2.out.lt _ h).1; omega)
      have RO5 : Hid (∀ k, r'.ownBlock = some k → ¬ UO O2 k) := Lib.hid fun k hk hu => by
        rcases hor.out with h | h
        · exact RO2.out k (h ▸ hk) hu
        · have h3 := H2.out.ltU hu
          have h4 := F4.out.size
          have h5 := F3.out.size
          rw [hk] at h
          have h := Option.some.inj h
          omega
      have R5 : Hid (w5.ownsRow (w.heap.size + 1) 42 6 r' (os ++ [((⟨k', v', fl', ex', ve'⟩ : It), b')]).length (outsV (os ++ [((⟨k', v', fl', ex', ve'⟩ : It), b')]))) := Lib.hid (by
        rw [outsV_app, List.length_append]
        exact o6.out)
      have G5 := Lib.hid (F2.out.trans F5.out fun k hk h => by have := (R2.out.lt k h).1; omega)
      clear o6 f6 hor NEWS ONE R4 hbase F5 H2 B2 RO2 R2 F4 F3 p0 p1 p2 p3 p4 p5 F2 Z2
      obtain ⟨c0, c1, cs, c8⟩ := H5.out.cells
      clear c1 cs c8
      go_wp2_with fail
      refine (take_eq _ _ _ _ _ _ _ H5.out.slab rfl rfl).mono ?_
      rintro e w6 ⟨rfl, s6, f6⟩
      have Q6 : Hid (PutLp w P O cl Cd #[.string k, .string v, .int .u32 fl, .int .i64 ex, .int .u64 ve] w6 r' (os ++ [((⟨k', v', fl', ex', ve'⟩ : It), b')]) C2 O2) := Lib.hid
        ⟨H5.out.slabIn s6.out f6.out, OK2.out, SL2.trans sl1, LT2.out, ⟨f6.out.ownsRow R5.out fun k hk h => RO5.out k hk (H5.out.slabU _ h), RO5.out⟩, f6.out.heap B5.out fun h => NB2.out (H5.out.slabU _ h), NB2.out,
          G5.out.trans f6.out fun k hk h => (L2.out k (H5.out.slabU k h)).elim id fun h => by omega, L2.out, by rw [List.length_append, List.length_singleton]; omega⟩
      clear s6 f6 H5 B5 R5 RO5 G5 L2 NB2 LT2 OK2 c0
      go_wp2_with fail
      go_roundg (C2.M.length + 1)
      case measure => omega
      case rel => exact ⟨C2, O2, _, rfl, rfl, rfl, Q6⟩
end
end Go.Proofs.Ytpbbokpmlemboaa
