/-
  tomb: maps.Keys of a map with keys of the kind uint64, and what collects them.
-/
import Derived.Test.YtpdljgjofebgpaaTombB
import Derived.RangeFuncBox
import Derived.RangeFuncNested
import Derived.RangeFuncBound
import Derived.RangeFuncCalls
import Derived.RangeFuncLeaves
import Derived.Shelf.Abstract
import Derived.OwnWalkIn
import Derived.TacticsInMore
import Derived.LoopNIn
import Derived.LoopIn
import Derived.Maps.AppendAt
namespace Go.Proofs.Ytpdljgjofebgpaa
open Go.RowKit Go.Shelf
attribute [local go_sem] Oper.semAt_some

section
variable {α β : Type} [DecidableEq α] {key : α → Value} {val : β → Value} {w : World} {m r : Nat} {L : List (α × β)} {left : α → Bool} {F : Fence} {nF : Nat}

omit [DecidableEq α] in
theorem MapRg.walks {w' : World} (h : MapRg key val w m r L left) (hk : KeepsWalks w w') : MapRg key val w' m r L left := by
  obtain ⟨es, clock, since, seen, c0, h1, h2, h3, h4, h5, h6, h7⟩ := h
  exact ⟨es, clock, since, seen, c0, hk.same m _ h1 rfl, h2, h3, h4, h5, hk.same r _ h6 rfl, h7⟩
omit [DecidableEq α] in
theorem MapRg.left_walks {w' : World} (h : MapRg key val w m r L left) (hk : KeepsWalks w w') : w'.rangeLeft m r = w.rangeLeft m r := by
  obtain ⟨es, clock, since, seen, c0, h1, h2, h3, h4, h5, h6, h7⟩ := h
  unfold World.rangeLeft
  rw [hk.same m _ h1 rfl, hk.same r _ h6 rfl, h1, h6]
omit [DecidableEq α] in
theorem MapRg.isWalk (h : MapRg key val w m r L left) : ∃ o : Obj, w.heap[r]? = some o ∧ o.isWalk = true := by
  obtain ⟨es, clock, since, seen, c0, h1, h2, h3, h4, h5, h6, h7⟩ := h
  exact ⟨_, h6, rfl⟩
theorem Fr.to_row {w w' : World} {r : Nat} (f : Fr (One r) w w') : w.grownBy w' (some r) := ⟨f.os, f.tape, f.output, f.size, fun k hk hn => f.block k hk fun e => hn (by rw [show k = r from e])⟩

omit [DecidableEq α] in
theorem wpListIn_rangeM {P : Program} {ops : Array Oper} {rest : List Oper} {o : Oper} {ac : Act} {Q : Exit → Act → World → Prop} (hg : o.guard = none) (x : Operand) (t : TypeId) (hop : o.op = .range t x)
    {k e : TypeId} (ht : P.underlying t = some (.map k e)) (h : MapIs key val w m L) (hm : ac.eval x = .map (some m))
    (hK : ∀ w', MapRg key val w' m w.heap.size L (fun _ => true) → Fr Nob w w' → wpListIn F nF P ops Q rest (ac.put o.dst (.pointer (some ⟨w.heap.size, 0, none⟩))) w') : wpListIn F nF P ops Q (o :: rest) ac w :=
  wpListIn_plain hg fun _ hK' => by
    obtain ⟨w', hr, h1, h2⟩ := h.range ht
    unfold Oper.wpIn
    refine ⟨by simp [Oper.about, hop], ?_⟩
    rw [Oper.semAt_plain F _ _ (by rw [hop]; intro c hc'; cases hc')]
    simp [execOp, hop, hm, hr, Result.andThen]
    exact hK' _ _ (hK w' h1 h2)

theorem wpListIn_nextM {P : Program} {ops : Array Oper} {rest : List Oper} {o : Oper} {ac : Act} {Q : Exit → Act → World → Prop} (hg : o.guard = none) (it : Operand) (hop : o.op = .next it false)
    (h : MapRg key val w m r L left) (hit : ac.eval it = .pointer (some ⟨r, 0, none⟩))
    (hDone : Hid (∀ x, x ∈ L → left x.1 = false) → wpListIn F nF P ops Q rest (ac.put o.dst (.tuple #[.bool false])) w)
    (hMore : ∀ a b w', Hid ((a, b) ∈ L) → Hid (left a = true) → Hid (MapRg key val w' m r L (fun c => left c && !decide (c = a))) → Hid (w'.rangeLeft m r < w.rangeLeft m r) → Hid (Fr (One r) w w') → (Instr.entry (.pointer (some ⟨r, 0, none⟩))).run P w' = .ok (.tuple #[key a, val b]) w' →
      wpListIn F nF P ops Q rest (ac.put o.dst (.tuple #[.bool true, key a, val b])) w') : wpListIn F nF P ops Q (o :: rest) ac w :=
  wpListIn_plain hg fun _ hK' => by
    unfold Oper.wpIn
    refine ⟨by simp [Oper.about, hop], ?_⟩
    rw [Oper.semAt_plain F _ _ (by rw [hop]; intro c hc'; cases hc')]
    rcases h.next (P := P) o.type with ⟨h0, hr⟩ | ⟨x, w', h1, h2, hr, h3, h4, h5, h6⟩
    · simp [execOp, hop, hit, hr, Result.andThen]
      exact hK' _ _ (hDone h0)
    · simp [execOp, hop, hit, hr, Result.andThen]
      exact hK' _ _ (hMore x.1 x.2 w' h1 h2 h3 h4 h5 h6)
end

/-- What has come of a map's keys. -/
def Came (M : List Mk) (left : Nat → Bool) (ss : List Nat) : Prop := ss.Nodup ∧ ∀ x, x ∈ ss ↔ x ∈ keysM M ∧ left x = false
theorem Came.start (M : List Mk) : Came M (fun _ => true) [] := ⟨List.nodup_nil, fun x => by simp⟩
theorem Came.step {M : List Mk} {left : Nat → Bool} {ss : List Nat} {a b : Nat} (h : Came M left ss) (hm : (a, b) ∈ M) (hl : left a = true) : Came M (fun c => left c && !decide (c = a)) (ss ++ [a]) := by
  refine ⟨?_, fun x => ?_⟩
  · rw [List.nodup_append]
    refine ⟨h.1, by simp, fun x hx y hy e => ?_⟩
    simp at hy
    subst hy
    subst e
    have := ((h.2 x).1 hx).2
    rw [hl] at this
    cases this
  · rw [List.mem_append, h.2 x]
    by_cases e : x = a
    · subst e
      simp [keysM]
      exact ⟨b, hm⟩
    · simp [e]
theorem Came.done {M : List Mk} {left : Nat → Bool} {ss : List Nat} (h : Came M left ss) (hn : (keysM M).Nodup) (h0 : ∀ x, x ∈ M → left x.1 = false) : ss.Perm (keysM M) := by
  refine (List.perm_ext_iff_of_nodup h.1 hn).2 fun x => ?_
  rw [h.2 x]
  refine ⟨fun h => h.1, fun hx => ⟨hx, ?_⟩⟩
  obtain ⟨y, hy, rfl⟩ := List.mem_map.1 hx
  exact h0 y hy
theorem nodup_len {α : Type} [DecidableEq α] : ∀ (l k : List α), l.Nodup → (∀ x, x ∈ l → x ∈ k) → l.length ≤ k.length
  | [], _, _, _ => Nat.zero_le _
  | x :: l, k, hn, hs => by
    rw [List.nodup_cons] at hn
    have hx := hs x (by simp)
    have h1 := nodup_len l (k.erase x) hn.2 fun y hy => (List.mem_erase_of_ne fun e => hn.1 (by rw [← e]; exact hy)).2 (hs y (by simp [hy]))
    rw [List.length_erase_of_mem hx] at h1
    have h2 : 0 < k.length := List.length_pos_of_mem hx
    rw [List.length_cons]
    omega
theorem Came.short {M : List Mk} {left : Nat → Bool} {ss : List Nat} {a b : Nat} (h : Came M left ss) (hm : (a, b) ∈ M) (hl : left a = true) : ss.length < M.length := by
  have h1 : (ss ++ [a]).Nodup := (h.step hm hl).1
  have h4 : (ss ++ [a]).length ≤ (keysM M).length := nodup_len _ _ h1 fun x hx => (((h.step hm hl).2 x).1 hx).1
  simp [keysM] at h4
  omega

set_option maxRecDepth 100000 in
set_option maxHeartbeats 1000000 in
theorem keysU1_in (F : Fence) (n : Nat) (hf : F.fn 103) (hro : F.round = none) (hn : 1 ≤ n) (l Bm m : Nat) (M : List Mk) (J Jx : List Nat → World → Prop)
    (hY : ∀ pre x W, J pre W → pre.length < M.length → YieldAt F (n - 1) Try.prog l #[ku x] W fun e W' =>
      (e = .returned (.bool true) ∧ J (pre ++ [x]) W' ∧ KeepsWalks W W') ∨ (e = .returned (.bool false) ∧ Jx (pre ++ [x]) W'))
    (W : World) (hJ : AbidesFrom W.heap.size J) (hm : W.cell? ⟨Bm, 0, none⟩ = some (.map (some m))) (hown : MapIs ku ku W m M) (h0 : J [] W) :
    CallsIn F n Try.prog 103 #[.func (.yield l) #[] #[], .pointer (some ⟨Bm, 0, none⟩)] W fun e W' => (∃ v, e = .returned v) ∧
      ((∃ ys : List Nat, ys.Perm (keysM M) ∧ J ys W') ∨ (∃ pre : List Nat, True ∧ Jx pre W')) := by
  refine callsIn_of_wp Try.func103 rfl hf ?_ hro
  simp only [Try.ntmps103, List.size_toArray, List.length_cons, List.length_nil, Nat.reduceAdd, Nat.reduceSub, Array.replicate_succ, Array.replicate_zero, List.push_toArray, List.append_toArray, List.nil_append, List.cons_append]
  have HN := Lib.hid hown.nodup
  have HY := Lib.hid hY
  have HJ := Lib.hid hJ
  have H0 := Lib.hid h0
  clear hY hJ h0
  gi_wp2_with (gi_at_range; (with_reducible refine wpListIn_rangeM rfl _ 134 rfl (key := ku) (val := ku) Try.underlying134 hown rfl ?_); intro w0 hrg0 f0)
  have HRG0 := Lib.hid hrg0
  have J0 := Lib.hid (HJ.out [] W w0 none H0.out (f0.to_grown none) (fun r e => by cases e))
  clear hrg0 f0
  go_frame
  gi_loopw [3] (fun _ wr => ∃ (left : Nat → Bool) (ss : List Nat), Hid (MapRg ku ku wr m W.heap.size M left) ∧ Hid (Came M left ss) ∧ Hid (J ss wr)) (fun _ wr => wr.rangeLeft m W.heap.size)
  case atStart => exact ⟨_, [], HRG0, Lib.hid (Came.start M), J0⟩
  case round =>
    clear HRG0 J0
    obtain ⟨left, ss, hrg, hC, hJs⟩ := hrel
    gi_wp2_with (gi_at_next; (with_reducible refine wpListIn_nextM rfl _ rfl hrg.out rfl ?_ ?_))
    · intro hl0
      gi_wp2
      go_end0
      exact ⟨⟨_, rfl⟩, .inl ⟨ss, hC.out.done HN.out (fun x hx => hl0.out x.1 x.2 hx), hJs.out⟩⟩
    · intro a b w2 hm2 hl2 hrg2 hlt f2 hen
      have hJ2 : J ss w2 := HJ.out ss wr w2 (some W.heap.size) hJs.out f2.out.to_row (fun r e => by cases e; exact ⟨Nat.le_refl _, hrg.out.isWalk⟩)
      obtain ⟨fn, tmps, assign, body, hy, hR⟩ := HY.out ss a w2 hJ2 (hC.out.short hm2.out hl2.out)
      gi_wp2
      refine hR.mono ?_
      rintro e W3 (⟨rfl, hJ3, hk3⟩ | ⟨rfl, hJx3⟩)
      · have hrg3 := hrg2.out.walks hk3
        have HR3 := Lib.hid hrg3
        have hC3 := Lib.hid (hC.out.step hm2.out hl2.out)
        have HJ3 := Lib.hid hJ3
        have HLT : Hid (W3.rangeLeft m W.heap.size < wr.rangeLeft m W.heap.size) := Lib.hid (by rw [hrg2.out.left_walks hk3]; exact hlt.out)
        clear hJ3 hJ2
        gi_wp2
        go_roundw
        case rel => exact ⟨_, _, HR3, hC3, HJ3⟩
        case measure => exact HLT.out
      · have HJX := Lib.hid hJx3
        gi_wp2
        refine bodyPost_ret (results_none rfl _ _ _) rfl ?_
        exact ⟨⟨_, rfl⟩, .inr ⟨ss ++ [a], trivial, HJX.out⟩⟩

theorem keysU_in (F : Fence) (n : Nat) (hf : F.fn 90) (hro : F.round = none) (m : Nat) (w : World) :
    CallsIn F n Try.prog 90 #[.map (some m)] w fun e w' => e = .returned (.func (.func 103) #[] #[.pointer (some ⟨w.heap.size, 0, none⟩)]) ∧ w' = w.alloc (.cells #[.map (some m)] 134) := by
  refine callsIn_of_wp Try.func90 rfl hf ?_ hro
  simp only [Try.ntmps90, List.size_toArray, List.length_cons, List.length_nil, Nat.reduceAdd, Nat.reduceSub, Array.replicate_succ, Array.replicate_zero, List.push_toArray, List.append_toArray, List.nil_append, List.cons_append]
  gi_wp2
  go_ret
  exact ⟨rfl, rfl⟩

theorem keysU_stops (F : Fence) (n : Nat) (hf : F.fn 103) (hro : F.round = none) (hn : 1 ≤ n) (Bm m : Nat) (M : List Mk) (w : World) (hB : Bm < w.heap.size)
    (hm : w.cell? ⟨Bm, 0, none⟩ = some (.map (some m))) (hown : MapIs ku ku w m M) :
    SeqStopsK F n Try.prog 103 #[.pointer (some ⟨Bm, 0, none⟩)] (fun x : Nat => #[ku x]) KeepsWalks (fun ys => ys.Perm (keysM M)) (fun _ => True) M.length w := fun l J Jx W hW hJ _ hY h0 =>
  keysU1_in F n hf hro hn l Bm m M J Jx hY W hJ ((hW.cell (p := ⟨Bm, 0, none⟩) hB).trans hm) (hown.keep (Fr.of_below hW) fun h => h) h0

theorem u64_info : (Try.prog.info? 27).map (fun i => (i.zero, i.size, i.bytes)) = some (some (.int .u64 0), 1, 8) := by kernel_rfl

set_option maxRecDepth 100000 in
set_option maxHeartbeats 2000000 in
theorem appendU_in (F : Fence) (n : Nat) (hf : F.fn 108) (hg : F.fn 103) (hro : F.round = none) (hn : 3 ≤ n) (Bm m : Nat) (M : List Mk) (w : World) (hB : Bm < w.heap.size)
    (hm : w.cell? ⟨Bm, 0, none⟩ = some (.map (some m))) (hown : MapIs ku ku w m M) (hl : M.length ≤ 1000000) :
    CallsIn F n Try.prog 108 #[.slice none 0 0, .func (.func 103) #[] #[.pointer (some ⟨Bm, 0, none⟩)]] w fun e w' =>
      ∃ v, e = .returned v ∧ (∃ ys : List Nat, ys.Perm (keysM M) ∧ w'.ownsRow w.heap.size 27 1 v ys.length (ys.map ku)) ∧ Below w.heap.size w w' := by
  have h1 : 1 ≤ n := by omega
  obtain ⟨i0, hi, hz0, hz1, hz2⟩ := info_parts u64_info
  refine callsIn_of_wp_marks Try.func108 rfl hf ?_ hro
  simp only [Try.ntmps108, List.size_toArray, List.length_cons, List.length_nil, Nat.reduceAdd, Nat.reduceSub, Array.replicate_succ, Array.replicate_zero, List.push_toArray, List.append_toArray, List.nil_append, List.cons_append]
  gi_wp2
  have bO := Boxed.new w 141 (.slice none 0 0)
  have hB0 : Below w.heap.size w (w.alloc (.cells #[.slice none 0 0] 141)) := (Below.refl _ w).alloc (Nat.le_refl _) _
  have fa : Fr Nob w (w.alloc (.cells #[.slice none 0 0] 141)) := (Fr.refl Nob w).alloc _
  refine wpIn_rangeFunc_ownG hro h1 (gf := 103) (lb := #[.pointer (some ⟨Bm, 0, none⟩)]) rfl hg (enters_of Try.func103 (by kernel_rfl) rfl)
    (keysU_stops F (n - 1) hg hro (by omega) Bm m M _ (by simp; omega) (fa.cell hm fun h => h) (hown.keep fa fun h => h)) walksK_t walksK_b (Below.refl _ _) (fun _ => rfl)
    (fun pre W => (∃ v, Boxed W w.heap.size 141 v ∧ W.ownsRow w.heap.size 27 1 v pre.length (pre.map ku) ∧ True) ∧ Below w.heap.size w W)
    (fun _ _ _ => False)
    (OwnFrom.and (Own.from (holdsRow_own w.heap.size w.heap.size 141 27 1 (fun pre : List Nat => pre.length) (fun pre => pre.map ku) (fun _ _ => True)) _) (ownFrom_below (Nat.le_refl _) (by simp)))
    (fun _ _ _ _ _ hs _ _ => hs)
    ⟨⟨_, bO, World.ownsRow_nil _ _ _ _, trivial⟩, hB0⟩
    (fun x => { tmps := #[.slice none 0 0, .func (.func 103) #[] #[.pointer (some ⟨Bm, 0, none⟩)], .pointer (some ⟨w.heap.size, 0, none⟩), undef, .slice none 0 0, ku x, .func (.func 103) #[] #[.pointer (some ⟨Bm, 0, none⟩)], ku x, undef, undef, undef, undef, undef], defers := [] }) ?assign ?body ?done ?stop
  case assign =>
    intro l x W K hK
    gi_wp2
    exact hK
  case body =>
    rintro l pre x W ⟨⟨v, hv, hrow, _⟩, hB⟩ hlt
    have hc := hv.cell
    gi_wp2_with (gi_at_builtin; refine wpListIn_append_own _ rfl _ _ 141 rfl w.heap.size 27 i0 (.int .u64 0) 1 8 Try.underlying141 hi hz0 hz1 hz2 rfl (by decide) _ _ _ rfl (hrow.alloc _) ⟨W.heap.size, 0, none⟩ 1 1 [ku x] rfl rfl (cell_one_new _ _ _) (by simp [Value.oneCell']) (by simp only [maxLen]; omega) (by omega) (by have := hB.size; simp; omega) ?_; intro v' w1 hown' hgrow _; obtain ⟨g', cap', rfl⟩ := ownsRow_succ hown'; obtain ⟨hv1, hv2, hr2, hk2, hb2⟩ := hv.appended (by decide) hrow hB.size (Nat.le_refl _) hown' hgrow; have hc1 := hv1.cell; have hf1 := hv1.frozen)
    exact ⟨hk2.from _, hk2.walks, ⟨_, hv2, by simpa using hr2, trivial⟩, hB.trans hb2⟩
  case done =>
    rintro D ys W hD hys ⟨⟨v, hv, hrow, _⟩, hB⟩ hK
    have hc := hv.cell
    gi_wp2
    refine ⟨by simp, .inl ⟨_, _, rfl, run_takeDeferred hK, ?_⟩⟩
    exact ⟨_, results_tmp rfl _ _ _, v, rfl, ⟨ys, hys, ownsRow_putObj hrow _ hK rfl⟩, hB.trans (belowK_b (w := w) (Nat.le_refl _) W D _ _ (by simp at hD; omega) hK rfl rfl)⟩
  case stop =>
    rintro D c pre W _ _ h _
    exact h.elim

end Go.Proofs.Ytpdljgjofebgpaa
