/-
  dram: slices.Grow of nothing, and slices.Concat of three.
-/
import Derived.Test.YtpbbokpmlemboaaAppN0
import Derived.Test.YtpbbokpmlemboaaSegL
import Derived.Lib.AppendZerosOnto
import Derived.Deep.DeepCutAuto
namespace Go.Proofs.Ytpbbokpmlemboaa
open Go.RowKit

theorem slice_toI (A : Option Addr) (n cap i : Nat) (h : i ≤ cap) (w : World) : (Instr.slice 77 (.slice A n cap) none (some (.int .i64 (i : Int))) none).run Try.prog w = .ok (.slice A i cap) w := by
  have ht' : Try.prog.underlying 77 = some (.slice (Try.prog.elem 77)) := by simp [Program.elem, Try.underlying77]
  have he : Try.prog.elem 77 = 3 := by simp [Program.elem, Try.underlying77]
  rw [run_slice_h w 77 _ _ _ ht' .i64 _ (by omega) (by omega), he, Try.sizeOf3]
  cases A <;> simp [Result.andThen, sliced, Addr.add]
/-- append of whatever, nothing too, onto a row of the call's own. -/
theorem wpList_appG {P : Program} {ops : Array Oper} {rest : List Oper} {o : Oper} {a : Act} {w : World} {Q : Exit → Act → World → Prop} (hgd : o.guard = none) (s x : Operand) (t : TypeId)
    (ho : o.op = .call { callee := .builtin .append, args := #[s, x], argTypes := #[t, t] })
    (e : TypeId) (z : Array Value) (size bytes : Nat) (ht : P.underlying t = some (.slice e))
    (hz : (P.info? e).map (fun i => (i.zero.map Value.cells, i.size, i.bytes)) = some (some z, size, bytes)) (hzs : z.size = size) (hsz : 0 < size)
    (base : Nat) (v : Value) (n : Nat) (xs : List Value) (hs : a.eval s = v) (hown : w.ownsRow base e size v n xs)
    (A : Option Addr) (m c : Nat) (news : List Value) (hx : a.eval x = .slice A m c) (hl : news.length = m * size)
    (hA : 0 < m → ∃ ad, A = some ad ∧ ∀ j u, news[j]? = some u → w.cell? (ad.add j) = some u) (h1 : ∀ u ∈ news, u.oneCell' = true)
    (h63 : n + m ≤ 9223372036854775807) (hbytes : (n + m) * bytes ≤ 140737488355328) (hbase : base ≤ w.heap.size)
    (h : ∀ v' w', Hid (w'.ownsRow base e size v' (n + m) (xs ++ news)) → Hid (Fr (fun k => v.ownBlock = some k) w w') → Hid (v'.ownBlock = v.ownBlock ∨ v'.ownBlock = some w.heap.size) → wpList P ops Q rest (a.put o.dst v') w') :
    wpList P ops Q (o :: rest) a w := by
  cases m with
  | zero =>
    have hn : news = [] := List.eq_nil_of_length_eq_zero (by rw [hl, Nat.zero_mul])
    subst hn
    obtain ⟨b, cap, rfl, hle⟩ : ∃ b cap, v = .slice b n cap ∧ n ≤ cap := by
      rcases hown.2 with ⟨h, hn⟩ | ⟨g, cap', cur, h, _, _, h4, _⟩
      · exact ⟨none, 0, by rw [h, hn], by omega⟩
      · exact ⟨_, cap', h, h4⟩
    refine wpList_app_none' hgd s x t ho e z size bytes ht hz b n cap hle hs A c hx ?_
    refine h _ _ (Lib.hid ?_) (Lib.hid (Fr.refl _ _)) (Lib.hid (.inl rfl))
    rw [Nat.add_zero, List.append_nil]
    exact hown
  | succ m =>
    obtain ⟨ad, rfl, hc⟩ := hA (Nat.succ_pos m)
    exact wpList_app hgd s x t ho e z size bytes ht hz hzs hsz base v n xs hs hown ad (m + 1) c news hx hl hc h1 h63 hbytes hbase h

theorem int_info : (Try.prog.info? 3).map (fun i => (i.zero.map Value.cells, i.size, i.bytes)) = some (some #[.int .i64 0], 1, 8) := by kernel_rfl

/-- append(nothing, make([]int, n)...). -/
theorem wpList_app_new {ops : Array Oper} {rest : List Oper} {o : Oper} {a : Act} {w : World} {Q : Exit → Act → World → Prop} (hgd : o.guard = none) (s x : Operand)
    (ho : o.op = .call { callee := .builtin .append, args := #[s, x], argTypes := #[77, 3] })
    (hs : a.eval s = .slice none 0 0) (k : Nat) (hx : a.eval x = .int .i64 k) (h0 : 0 < k) (h63 : k ≤ 1000000)
    (h : ∀ g cap w', g = w.heap.size → Hid (w'.ownsRow w.heap.size 3 1 (.slice (some ⟨g, 0, none⟩) 0 cap) 0 []) → Hid (Fr Nob w w') → wpList Try.prog ops Q rest (a.put o.dst (.slice (some ⟨g, 0, none⟩) k cap)) w') :
    wpList Try.prog ops Q (o :: rest) a w := by
  obtain ⟨i, zv, hi, hz, hzc, hsz, hby⟩ : ∃ i zv, Try.prog.info? 3 = some i ∧ i.zero = some zv ∧ zv.cells = #[.int .i64 0] ∧ i.size = 1 ∧ i.bytes = 8 := by
    have hu := int_info
    cases hq : Try.prog.info? 3 with
    | none => simp [hq] at hu
    | some i =>
      simp only [hq, Option.map_some, Option.some.injEq, Prod.mk.injEq] at hu
      obtain ⟨hz1, hz2, hz3⟩ := hu
      cases hzz : i.zero with
      | none => simp [hzz] at hz1
      | some zv => exact ⟨i, zv, rfl, hzz, by simpa [hzz] using hz1, hz2, hz3⟩
  refine wpList_plain hgd fun K hK => ?_
  have hold : (Builtin.firstCells i.size 0 (.slice none 0 0)).run Try.prog w.drew = .ok #[] w.drew := by simp [Builtin.firstCells]
  have hr := Lib.run_append_grow_zeros (P := Try.prog) w 77 3 o.type 3 i zv .i64 .i64 Try.underlying77 Try.underlying3 hi hz none 0 0 _ hold k h0 (by omega) (by omega) (by omega) (by rw [hby]; omega) (by
    rw [hby]
    exact growslice_fits (by omega) (by omega))
  have hge := grownCap_ge w (0 + k) 0 3
  have hcm2 : grownCap w (0 + k) 0 3 ≤ maxLen := grownCap_le_maxLen w (0 + k) 0 3 (by simp only [maxLen]; omega)
  simp only [Nat.zero_add] at hr hge hcm2
  unfold Oper.wp execOp
  simp only [ho, resolve, invoke, builtin, Sem.run_bind, Sem.run_pure, Result.andThen_ok, List.map_toArray, List.map_cons, List.map_nil, hs, hx, hr]
  refine hK _ _ (h w.heap.size (grownCap w k 0 3) _ rfl (Lib.hid ⟨rfl, .inr ⟨w.heap.size, _, _, rfl, Nat.le_refl _, heap_alloc_new w.drew _, Nat.zero_le _, hcm2, ?_, rfl⟩⟩) (Lib.hid (((Fr.refl _ w).drew).alloc _)))
  simp only [Array.size_append, size_zeroCells, hzc]
  simp
  omega

set_option maxHeartbeats 2000000 in
set_option maxRecDepth 100000 in
theorem grow_nil (n : Nat) (w : World) (hn : n ≤ 1000000) :
    Calls Try.prog 56 #[.slice none 0 0, .int .i64 n] w fun e w' => ∃ v, e = .returned v ∧ w'.ownsRow w.heap.size 3 1 v 0 [] ∧ Fr Nob w w' := by
  have h1 : ¬ (n : Int) < 0 := by omega
  by_cases h0 : 0 < n
  · have h2 : (0 : Int) < (n : Int) := by omega
    have S0 := slice_toI none 0 0 0 (by omega) w
    go_enter Try.func56, Try.ntmps56
    go_wp2_with (with_reducible refine wpList_app_new (o := ⟨some 22, _, _, _, _, _⟩) rfl (.tmp 20) (.tmp 21) rfl rfl n rfl h0 hn ?_)
    intro g cap w' hg o1 f1
    subst hg
    have SG := slice_toI (some ⟨w.heap.size, 0, none⟩) n cap 0 (by omega) w'
    go_wp2_with fail
    go_ret
    exact ⟨_, rfl, o1.out, f1.out⟩
  · have h2 : ¬ (0 : Int) < (n : Int) := by omega
    go_enter Try.func56, Try.ntmps56
    go_wp2_with fail
    go_ret
    exact ⟨_, rfl, World.ownsRow_nil _ _ _ _, Fr.refl _ _⟩

def catTo (L : Nat → List Int) : Nat → List Int
  | 0 => []
  | k + 1 => catTo L k ++ L k
theorem catTo_le (L : Nat → List Int) {B : Nat} (h : ∀ j, (L j).length ≤ B) : ∀ k, (catTo L k).length ≤ B * k
  | 0 => by simp [catTo]
  | k + 1 => by
    have := catTo_le L h k
    have := h k
    simp only [catTo, List.length_append, Nat.mul_succ]
    omega

/-- A list of numbers that can be read. -/
def RdI (w : World) (v : Value) (xs : List Int) : Prop := ∃ a cap, v = .slice a xs.length cap ∧ (0 < xs.length → ∃ g, a = some ⟨g, 0, none⟩ ∧ ∀ j, j < xs.length → w.cell? ⟨g, j, none⟩ = some (.int .i64 (xs.getD j 0)))
theorem RdI.of_row {w : World} {base : Nat} {v : Value} {n : Nat} {xs : List Int} (h : w.ownsRow base 3 1 v n (ints xs)) : RdI w v xs := by
  have hlen : xs.length = n := by simpa using h.1
  subst hlen
  rcases h.2 with ⟨rfl, h0⟩ | ⟨g, cap, _, rfl, _⟩
  · exact ⟨none, 0, by rw [h0], fun hj => by omega⟩
  · obtain ⟨cur, h1, h2, h3, h4, h5, h6⟩ := row_cell h
    refine ⟨_, cap, rfl, fun _ => ⟨g, rfl, fun j hj => ?_⟩⟩
    rw [cell_of_row w g j _ _ (0, 0) h1, h6 j hj, List.getElem?_map, List.getD_eq_getElem?_getD, List.getElem?_eq_getElem hj]
    rfl
theorem RdI.nob {w w' : World} {v : Value} {xs : List Int} (h : RdI w v xs) (f : Fr Nob w w') : RdI w' v xs := by
  obtain ⟨a, cap, rfl, h⟩ := h
  refine ⟨a, cap, rfl, fun h0 => ?_⟩
  obtain ⟨g, h1, h2⟩ := h h0
  exact ⟨g, h1, fun j hj => f.cell (h2 j hj) fun h => h⟩
theorem RdI.news {w : World} {A : Option Addr} {c : Nat} {xs : List Int} (h : RdI w (.slice A xs.length c) xs) : 0 < xs.length → ∃ ad, A = some ad ∧ ∀ j u, (ints xs)[j]? = some u → w.cell? (ad.add j) = some u := by
  intro h0
  obtain ⟨a, cap, e, h⟩ := h
  obtain ⟨g, h1, h2⟩ := h h0
  simp only [Value.slice.injEq] at e
  refine ⟨⟨g, 0, none⟩, by rw [e.1, h1], fun j u hu => ?_⟩
  rw [Addr.add_lit, Nat.zero_add]
  have hj : j < xs.length := by
    by_cases hj : j < xs.length
    · exact hj
    · rw [List.getElem?_eq_none (by simpa using Nat.le_of_not_lt hj)] at hu
      cases hu
  rw [h2 j hj]
  rw [List.getElem?_map, List.getElem?_eq_getElem hj] at hu
  rw [List.getD_eq_getElem?_getD, List.getElem?_eq_getElem hj]
  exact hu
theorem ints_app (xs ys : List Int) : ints (xs ++ ys) = ints xs ++ ints ys := List.map_append ..

set_option maxHeartbeats 4000000 in
set_option maxRecDepth 100000 in
theorem concat_eq {w : World} {g : Nat} {V : Nat → Value} {L : Nat → List Int} (hc : ∀ k, k < 3 → w.cell? ⟨g, k, none⟩ = some (V k)) (hr : ∀ k, k < 3 → RdI w (V k) (L k)) (hb : ∀ k, (L k).length ≤ 20000) :
    Calls Try.prog 38 #[.slice (some ⟨g, 0, none⟩) 3 3] w fun e w' => ∃ v, e = .returned v ∧ w'.ownsRow w.heap.size 3 1 v (catTo L 3).length (ints (catTo L 3)) ∧ Fr Nob w w' := by
  have HC := Lib.hid hc
  have HR := Lib.hid hr
  have HB := Lib.hid fun k => catTo_le L hb k
  have HB1 := Lib.hid hb
  clear hc hr hb
  go_enter Try.func38, Try.ntmps38
  go_wp2_with fail
  go_loopw [3, 5, 11] (fun s _ i wr => ∃ k : Nat, k ≤ 3 ∧ i = .int .i64 k ∧ s = .int .i64 ((catTo L k).length : Int) ∧ w = wr) (fun _ _ i _ => 3 - (Lib.intOf i).toNat)
  case atStart => exact ⟨0, by simp [catTo]⟩
  case round =>
    obtain ⟨k, hk, rfl, rfl, rfl⟩ := hrel
    have hbk := HB.out k
    by_cases hlt : k < 3
    · have hlt2 : (k : Int) < 3 := by omega
      have ck := HC.out k hlt
      have hlk := HB1.out k
      have NX : Hid (((catTo L k).length : Int) + ((L k).length : Int) = ((catTo L (k + 1)).length : Int)) := Lib.hid (by simp only [catTo, List.length_append]; omega)
      obtain ⟨a, cap, hv, _⟩ := HR.out k hlt
      rw [hv] at ck
      generalize (catTo L k).length = s0 at *
      generalize (L k).length = l0 at *
      have hneg : ¬ ((s0 : Int) + (l0 : Int) < 0) := by omega
      clear hv
      go_wp2_with fail
      go_roundw
      case rel => exact ⟨k + 1, by omega, by go_num, by rw [← NX.out], trivial⟩
      case measure => simp [Lib.intOf]; omega
    · have hk3 : k = 3 := by omega
      subst hk3
      have hlt2 : ¬ ((3 : Nat) : Int) < 3 := by omega
      go_wp2_with fail
      refine (grow_nil _ _ (by have := HB.out 3; omega)).mono ?_
      rintro e w2 ⟨v, rfl, o2, f2⟩
      have O2 := Lib.hid o2
      have F2 := Lib.hid f2
      clear o2 f2 hbk
      go_wp2_with fail
      go_loopw [6, 8, 27] (fun v _ i wr => ∃ k : Nat, k ≤ 3 ∧ i = .int .i64 k ∧ Hid (wr.ownsRow w.heap.size 3 1 v (catTo L k).length (ints (catTo L k))) ∧ Hid (Fr Nob w wr)) (fun _ _ i _ => 3 - (Lib.intOf i).toNat)
      case atStart => exact ⟨0, by omega, rfl, O2, F2⟩
      case round =>
        clear O2 F2
        obtain ⟨k, hk, rfl, O, F⟩ := hrel
        by_cases hlt : k < 3
        · have hlt3 : (k : Int) < 3 := by omega
          have ck := F.out.cell (HC.out k hlt) fun h => h
          have rk := (HR.out k hlt).nob F.out
          have hbk := HB.out k
          have hlk := HB1.out k
          obtain ⟨a, cap, hv, _⟩ := HR.out k hlt
          rw [hv] at ck rk
          have NW := Lib.hid rk.news
          have NL : Hid ((ints (L k)).length = (L k).length * 1) := Lib.hid (by simp)
          have ON := Lib.hid (ints_one (L k))
          have hsz := F.out.size
          clear hv rk
          go_wp2_with (with_reducible refine wpList_appG (o := ⟨some 33, _, _, _, _, _⟩) rfl (.tmp 31) (.tmp 32) 77 rfl 3 #[.int .i64 0] 1 8 Try.underlying77 int_info rfl (by omega) w.heap.size u6 (catTo L k).length (ints (catTo L k)) rfl O.out a (L k).length cap (ints (L k)) rfl NL.out NW.out ON.out (by omega) (by omega) hsz ?_)
          intro v' w5 o5 f5 hor
          have O5 : Hid (w5.ownsRow w.heap.size 3 1 v' (catTo L (k + 1)).length (ints (catTo L (k + 1)))) := Lib.hid (by
            simp only [catTo, List.length_append, ints_app]
            exact o5.out)
          have F5 : Hid (Fr Nob w w5) := Lib.hid (F.out.trans f5.out fun j hj h => by have := (O.out.lt j h).1; omega)
          clear o5 f5 hor O F NW NL ON ck hbk hlk hsz
          go_wp2_with fail
          go_roundw
          case rel => exact ⟨k + 1, by omega, by go_num, O5, F5⟩
          case measure => simp [Lib.intOf]; omega
        · have hk3 : k = 3 := by omega
          subst hk3
          go_wp2_with fail
          go_ret
          exact ⟨_, rfl, O.out, F.out⟩
end Go.Proofs.Ytpbbokpmlemboaa
