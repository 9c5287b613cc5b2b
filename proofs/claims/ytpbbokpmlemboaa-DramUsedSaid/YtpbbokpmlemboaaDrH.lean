/-
  dram: the contract of Items.
-/
import Derived.Test.YtpbbokpmlemboaaDrG
import Derived.Test.YtpbbokpmlemboaaDrF
namespace Go.Proofs.Ytpbbokpmlemboaa
open Go.RowKit Sl

/-- The numbers of the first k lists of use, from the head on. -/
def listTo (C : DC) : Nat → List Int
  | 0 => []
  | k + 1 => listTo C k ++ catTo (C.G k).get 3
def atC (C : DC) (x : Int) : Ou := (getM C.M x).getD zeroO
def itemsTo (C : DC) (k : Nat) : List Ou := (listTo C k).map (atC C)

theorem get_len (S : Sg) (k : Nat) : (S.get k).length ≤ S.tot := by
  match k with
  | 0 => exact S.get_le (t := 0) (by omega)
  | 1 => exact S.get_le (t := 1) (by omega)
  | k + 2 => exact S.get_le (t := 2) (by omega)
theorem listTo_len (C : DC) {B : Nat} (h : ∀ i, i < 6 → (C.G i).tot ≤ B) : ∀ k, k ≤ 6 → (listTo C k).length ≤ 3 * B * k
  | 0, _ => by simp [listTo]
  | k + 1, hk => by
    have h1 := listTo_len C h k (by omega)
    have h2 := catTo_le (C.G k).get (B := B) (fun j => Nat.le_trans (get_len _ j) (h k (by omega))) 3
    simp only [listTo, List.length_append, Nat.mul_succ]
    omega

theorem seg_six {w : World} {P : DP} {O : Nat → Nat → Prop} {C : DC} (h : DrIn w P O C) : w.cell? ⟨P.c, 2, none⟩ = some (.pointer (some ⟨P.q 0, 0, none⟩)) ∧ w.cell? ⟨P.c, 3, none⟩ = some (.pointer (some ⟨P.q 1, 0, none⟩)) ∧ w.cell? ⟨P.c, 4, none⟩ = some (.pointer (some ⟨P.q 2, 0, none⟩)) ∧
    w.cell? ⟨P.c, 5, none⟩ = some (.pointer (some ⟨P.q 3, 0, none⟩)) ∧ w.cell? ⟨P.c, 6, none⟩ = some (.pointer (some ⟨P.q 4, 0, none⟩)) ∧ w.cell? ⟨P.c, 7, none⟩ = some (.pointer (some ⟨P.q 5, 0, none⟩)) := by
  have cs := h.cells.2.2.1
  exact ⟨cs 0 (by omega), cs 1 (by omega), cs 2 (by omega), cs 3 (by omega), cs 4 (by omega), cs 5 (by omega)⟩

theorem RdI.keep {w w' : World} {v : Value} {xs : List Int} {X : Nat → Prop} (h : RdI w v xs) (f : Fr X w w') (hn : ∀ g, v.ownBlock = some g → ¬ X g) : RdI w' v xs := by
  obtain ⟨a, cap, rfl, h⟩ := h
  refine ⟨a, cap, rfl, fun h0 => ?_⟩
  obtain ⟨g, rfl, h2⟩ := h h0
  exact ⟨g, rfl, fun j hj => f.cell (h2 j hj) (hn g rfl)⟩
theorem take_snoc {xs : List Int} {j : Nat} (hj : j < xs.length) : xs.take (j + 1) = xs.take j ++ [xs.getD j 0] := by
  rw [List.take_add_one, List.getElem?_eq_getElem hj, List.getD_eq_getElem?_getD, List.getElem?_eq_getElem hj]
  rfl

set_option maxHeartbeats 8000000 in
set_option maxRecDepth 100000 in
theorem items_eq {w : World} {P : DP} {O : Nat → Nat → Prop} {C : DC} (h : DrIn w P O C) (ok : C.Ok) (hn : C.S.length ≤ 150) :
    Calls Try.prog 19 #[.pointer (some ⟨P.c, 0, none⟩)] w fun e w' => ∃ r, e = .returned r ∧ w'.ownsRow w.heap.size 42 6 r (itemsTo C 6).length (outsV (itemsTo C 6)) ∧ Fr Nob w w' := by
  have few := ok.few
  have TT : ∀ i, i < 6 → (C.G i).tot ≤ 9600 := fun i hi => by have := ok.tot hi; omega
  have LL : Hid (∀ k, k ≤ 6 → (itemsTo C k).length ≤ 200000) := Lib.hid fun k hk => by
    have := listTo_len C TT k hk
    unfold itemsTo
    rw [List.length_map]
    omega
  have TH := Lib.hid TT
  have H := Lib.hid h
  have OK := Lib.hid ok
  obtain ⟨z0, z1, z2, z3, z4, z5⟩ := seg_six h
  clear h ok TT
  go_enter Try.func19, Try.ntmps19
  go_wp2_with fail
  clear z0 z1 z2 z3 z4 z5
  go_loopw [3, 5, 6, 7, 8, 10, 15] (fun r _ _ _ _ _ i wr => ∃ k : Nat, k ≤ 6 ∧ i = .int .i64 k ∧ Hid (wr.ownsRow w.heap.size 42 6 r (itemsTo C k).length (outsV (itemsTo C k))) ∧ Hid (Fr Nob w wr)) (fun _ _ _ _ _ _ i _ => 6 - (Lib.intOf i).toNat)
  case atStart => exact ⟨0, by omega, rfl, Lib.hid (World.ownsRow_nil _ _ _ _), Lib.hid (Fr.refl _ _)⟩
  case round =>
    obtain ⟨k, hk, rfl, R, F⟩ := hrel
    by_cases hlt : k < 6
    · have IX := index_six (fun i => .pointer (some ⟨P.q i, 0, none⟩)) hlt wr
      have hlt2 : (k : Int) < 6 := by omega
      have tk := TH.out k hlt
      have HW := Lib.hid (H.out.nob F.out)
      have LX := LL.out (k + 1) (by omega)
      have LK := LL.out k (by omega)
      go_wp2_with fail
      refine (lists_eq (HW.out.seg k hlt) (by omega)).mono ?_
      rintro e w2 ⟨a, b, c, rfl, oa, ob, oc, f2⟩
      obtain ⟨aa, ca, rfl, _⟩ := RdI.of_row oa
      obtain ⟨ab, cb, rfl, _⟩ := RdI.of_row ob
      obtain ⟨ac, cc, rfl, _⟩ := RdI.of_row oc
      have hsz := f2.size
      obtain ⟨xs, hxs⟩ : ∃ xs, catTo (C.G k).get 3 = xs := ⟨_, rfl⟩
      have HXS := Lib.hid hxs
      have IT : Hid (itemsTo C (k + 1) = itemsTo C k ++ xs.map (atC C)) := Lib.hid (by unfold itemsTo; rw [show listTo C (k + 1) = listTo C k ++ catTo (C.G k).get 3 from rfl, hxs, List.map_append])
      have XL : xs.length ≤ 30000 := by
        rw [← hxs]
        have := catTo_le (C.G k).get (B := 9600) (fun j => Nat.le_trans (get_len _ j) tk) 3
        omega
      have f3 : Fr Nob w2 (w2.alloc (.cells #[.slice aa (C.G k).h.length ca, .slice ab (C.G k).m.length cb, .slice ac (C.G k).c.length cc] 77)) := (Fr.refl Nob w2).alloc _
      have a3 := heap_alloc_new w2 (.cells #[.slice aa (C.G k).h.length ca, .slice ab (C.G k).m.length cb, .slice ac (C.G k).c.length cc] 77)
      have RA := Lib.hid ((RdI.of_row oa).nob f3)
      have RB := Lib.hid ((RdI.of_row ob).nob f3)
      have RC := Lib.hid ((RdI.of_row oc).nob f3)
      have hs3 := f3.size
      have R3 := Lib.hid ((f2.trans' f3).ownsRow R.out fun _ _ h => h)
      have F3 := Lib.hid (F.out.trans' (f2.trans' f3))
      have CC := Lib.hid (concat_eq (w := w2.alloc (.cells #[.slice aa (C.G k).h.length ca, .slice ab (C.G k).m.length cb, .slice ac (C.G k).c.length cc] 77)) (g := w2.heap.size) (V := fun i => match i with | 0 => .slice aa (C.G k).h.length ca | 1 => .slice ab (C.G k).m.length cb | _ => .slice ac (C.G k).c.length cc) (L := (C.G k).get)
        (fun j hj => by
          have g := cell_of_row _ w2.heap.size j _ _ (0, 0) a3
          rw [g]
          match j, hj with
          | 0, _ => rfl
          | 1, _ => rfl
          | 2, _ => rfl)
        (fun j hj => by
          match j, hj with
          | 0, _ => exact RA.out
          | 1, _ => exact RB.out
          | 2, _ => exact RC.out)
        (fun j => by have := get_len (C.G k) j; omega))
      rw [hxs] at CC
      clear R F IX HW oa ob oc f2 f3 a3 RA RB RC hxs hsz hs3
      go_wp2_with fail
      refine CC.out.mono ?_
      rintro e w4 ⟨v4, rfl, o4, f4⟩
      have R4 := Lib.hid (f4.ownsRow R3.out fun _ _ h => h)
      have F4 := Lib.hid (F3.out.trans' f4)
      have NE4 : Hid (∀ i g, u3.ownBlock = some i → v4.ownBlock = some g → g ≠ i) := Lib.hid fun i g hi hg e => by have h1 := (R3.out.lt i hi).2; have h2 := (o4.lt g hg).1; omega
      have LT4 : Hid (∀ g, v4.ownBlock = some g → g < w4.heap.size) := Lib.hid fun g hg => (o4.lt g hg).2
      have hrd := RdI.of_row o4
      obtain ⟨A4, cap4, rfl, _⟩ := RdI.of_row o4
      have RD := Lib.hid hrd
      clear CC o4 f4 R3 F3 hrd
      go_wp2_with fail
      go_loopw [3, 10, 30] (fun r _ i wr => ∃ j : Nat, j ≤ xs.length ∧ i = .int .i64 j ∧ Hid (wr.ownsRow w.heap.size 42 6 r ((itemsTo C k).length + j) (outsV (itemsTo C k ++ (xs.take j).map (atC C)))) ∧ Hid (Fr Nob w wr) ∧ Hid (RdI wr (.slice A4 xs.length cap4) xs) ∧ Hid (∀ i g, r.ownBlock = some i → (Value.slice A4 xs.length cap4).ownBlock = some g → g ≠ i) ∧ Hid (∀ g, (Value.slice A4 xs.length cap4).ownBlock = some g → g < wr.heap.size)) (fun _ _ i _ => xs.length - (Lib.intOf i).toNat)
      case atStart => exact ⟨0, by omega, rfl, by simpa using R4, F4, RD, NE4, LT4⟩
      case round =>
        clear R4 F4 RD NE4 LT4
        obtain ⟨j, hj, rfl, R, F, RD, NE, LT⟩ := hrel
        by_cases hjl : j < xs.length
        · have hrd := RD.out
          obtain ⟨a', c', e', hcell⟩ := hrd
          simp only [Value.slice.injEq] at e'
          obtain ⟨rfl, _, rfl⟩ := e'
          obtain ⟨g, rfl, hcl⟩ := hcell (by omega)
          have cj := hcl j hjl
          clear hcl
          have hjl2 : (j : Int) < (xs.length : Int) := by omega
          have TS := Lib.hid (take_snoc hjl)
          generalize xs.getD j 0 = x at *
          have HW := Lib.hid (H.out.nob F.out)
          have c8 := HW.out.cells.2.2.2
          obtain ⟨o, ho⟩ : ∃ o, atC C x = o := ⟨_, rfl⟩
          have HO := Lib.hid ho
          obtain ⟨⟨kk, v, fl, ex, ve⟩, cl⟩ := o
          have fb := (Fr.refl Nob wr).alloc (.cells #[.string kk, .string v, .int .u32 fl, .int .i64 ex, .int .u64 ve, .bool cl] 42)
          have h24 := heap_alloc_new wr (.cells #[.string kk, .string v, .int .u32 fl, .int .i64 ex, .int .u64 ve, .bool cl] 42)
          have R5 := Lib.hid (fb.ownsRow R.out fun _ _ h => h)
          have NEWS : Hid (∀ (i : Nat) (u : Value), [Value.string kk, .string v, .int .u32 fl, .int .i64 ex, .int .u64 ve, .bool cl][i]? = some u → (wr.alloc (.cells #[.string kk, .string v, .int .u32 fl, .int .i64 ex, .int .u64 ve, .bool cl] 42)).cell? ((⟨wr.heap.size, 0, none⟩ : Addr).add i) = some u) := Lib.hid fun i u h => by
            rw [Addr.add_lit, Nat.zero_add, cell_of_row _ wr.heap.size i _ _ (0, 0) h24, ← Array.getElem?_toList]
            exact h
          have ONE : Hid (∀ u ∈ [Value.string kk, .string v, .int .u32 fl, .int .i64 ex, .int .u64 ve, .bool cl], u.oneCell' = true) := Lib.hid fun u hu => by
            simp only [List.mem_cons, List.not_mem_nil, or_false] at hu
            rcases hu with rfl | rfl | rfl | rfl | rfl | rfl <;> rfl
          have hbase : w.heap.size ≤ (wr.alloc (.cells #[.string kk, .string v, .int .u32 fl, .int .i64 ex, .int .u64 ve, .bool cl] 42)).heap.size := Nat.le_trans F.out.size fb.size
          have FB := Lib.hid fb
          clear fb h24 ho hcell
          go_wp2_with (first
            | (at_lookup; (with_reducible refine wpList_lookupM rfl _ _ 60 rfl (int_key .i64) (val := outV) Try.underlying60 Try.underlying3 (out_zero _) HW.out.map rfl x rfl ?_); rw [show (getM C.M x).getD zeroO = _ from HO.out]; dsimp only [outV])
            | (with_reducible refine wpList_app (o := ⟨some 42, _, _, _, _, _⟩) rfl (.tmp 34) (.tmp 41) 27 rfl 42 zeroC 6 64 Try.underlying27 out_info rfl (by omega) w.heap.size u3 _ _ rfl R5.out ⟨wr.heap.size, 0, none⟩ 1 1 [.string kk, .string v, .int .u32 fl, .int .i64 ex, .int .u64 ve, .bool cl] rfl rfl NEWS.out ONE.out (by omega) (by omega) hbase ?_))
          intro r' w5 o6 f6 hor
          have F6 := Lib.hid ((F.out.trans' FB.out).trans f6.out fun i hi h => by have := (R.out.lt i h).1; omega)
          have RD6 := Lib.hid ((RD.out.nob FB.out).keep f6.out fun g' hg' h => NE.out g' g' h hg' rfl)
          have NE6 : Hid (∀ i g', r'.ownBlock = some i → (Value.slice (some ⟨g, 0, none⟩) xs.length cap4).ownBlock = some g' → g' ≠ i) := Lib.hid fun i g' hi hg' e => by
            rcases hor.out with h | h
            · exact NE.out i g' (h ▸ hi) hg' e
            · have h1 := LT.out g' hg'
              have h2 := FB.out.size
              rw [hi] at h
              have h := Option.some.inj h
              omega
          have LT6 : Hid (∀ g', (Value.slice (some ⟨g, 0, none⟩) xs.length cap4).ownBlock = some g' → g' < w5.heap.size) := Lib.hid fun g' hg' => Nat.lt_of_lt_of_le (LT.out g' hg') (Nat.le_trans FB.out.size f6.out.size)
          have R6 : Hid (w5.ownsRow w.heap.size 42 6 r' ((itemsTo C k).length + (j + 1)) (outsV (itemsTo C k ++ (xs.take (j + 1)).map (atC C)))) := Lib.hid (by
            rw [TS.out, List.map_append, ← List.append_assoc, outsV_app]
            have := o6.out
            rw [← List.map_take, Nat.add_assoc] at this
            rw [show List.map (atC C) [x] = [atC C x] from rfl, HO.out]
            exact this)
          clear o6 f6 hor NEWS ONE hbase R5 R F RD NE LT FB HW c8 cj
          go_wp2_with fail
          go_roundw
          case rel => exact ⟨j + 1, by omega, by go_num, R6, F6, RD6, NE6, LT6⟩
          case measure => simp [Lib.intOf]; omega
        · have hje : j = xs.length := by omega
          subst hje
          have R7 : Hid (wr.ownsRow w.heap.size 42 6 u3 (itemsTo C (k + 1)).length (outsV (itemsTo C (k + 1)))) := Lib.hid (by
            rw [IT.out, List.length_append, List.length_map]
            have := R.out
            rwa [List.take_length] at this)
          clear R RD NE LT
          go_wp2_with fail
          go_roundw
          case rel => exact ⟨k + 1, by omega, by go_num, R7, F⟩
          case measure => simp [Lib.intOf]; omega
    · have hk6 : k = 6 := by omega
      subst hk6
      go_wp2_with fail
      go_ret
      exact ⟨_, rfl, R.out, F.out⟩
end Go.Proofs.Ytpbbokpmlemboaa
