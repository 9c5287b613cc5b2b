/-
  flash: 'both': Erase, Crash, Write.
-/
import Derived.Test.YtpdljgjofebgpaaRefH
namespace Go.Proofs.Ytpdljgjofebgpaa
open Go.RowKit

/-- append([]byte{}, b...). -/
theorem run_app_fresh {w : World} {ty : TypeId} {B g : Nat} (hown : w.ownsRow B 5 1 (.slice (some ⟨g, 0, none⟩) 0 0) 0 []) {A : Option Addr} {n c : Nat} {bs : List UInt8} (hr : RdB w (.slice A n c) bs) (hn : n ≤ 140737488355328) (hB : B ≤ w.heap.size) :
    ∃ v' w', (Builtin.append_ #[34, 34] ty #[.slice (some ⟨g, 0, none⟩) 0 0, .slice A n c]).run Try.prog w = .ok v' w' ∧ RdB w' v' bs ∧ Fr (One g) w w' ∧ (∃ a n' c', v' = .slice a n' c') ∧ ∀ k, v'.ownBlock = some k → B ≤ k ∧ k < w'.heap.size := by
  obtain ⟨i, zv, hi, hz, hzc, hsz, hby⟩ : ∃ i zv, Try.prog.info? 5 = some i ∧ i.zero = some zv ∧ zv.cells = #[.int .u8 0] ∧ i.size = 1 ∧ i.bytes = 1 := by
    have hu := u8_info'
    cases hq : Try.prog.info? 5 with
    | none => simp [hq] at hu
    | some i =>
      simp only [hq, Option.map_some, Option.some.injEq, Prod.mk.injEq] at hu
      obtain ⟨hz1, hz2, hz3⟩ := hu
      cases hzz : i.zero with
      | none => simp [hzz] at hz1
      | some zv => exact ⟨i, zv, rfl, hzz, by simpa [hzz] using hz1, hz2, hz3⟩
  obtain ⟨a', c', he, hc⟩ := hr
  have he' := he
  simp only [Value.slice.injEq] at he'
  obtain ⟨rfl, rfl, rfl⟩ := he'
  by_cases h0 : 0 < bs.length
  · obtain ⟨ad, rfl, hnews⟩ := RdB.news (a := A) (cap := c) (bs := bs) ⟨A, c, rfl, hc⟩ h0
    obtain ⟨v', w', hrun, h2, h3, _, h5⟩ := run_append_own_at (P := Try.prog) w B 34 ty 5 i zv 1 1 Try.underlying34 hi hz hsz hby (by rw [hzc]; rfl) (by omega) _ 0 [] hown ad bs.length c (bytesV bs) (by rw [bytesV_len]; omega) hnews (bytesV_one bs) (by simp only [maxLen]; omega) (by omega) hB
    rw [Nat.zero_add] at h2
    have hrow : w'.ownsRow B 5 1 v' bs.length (bytesV bs) := h2
    refine ⟨v', w', hrun, RdB.of_row hrow, ⟨h3.os, h3.tape, h3.output, h3.size, fun k hk hn => h3.block k hk (fun e => hn (own_block e.symm).symm)⟩, ?_, fun k hk => hrow.lt k hk⟩
    obtain ⟨g', c', rfl⟩ := row_some hrow (by omega)
    exact ⟨_, _, _, rfl⟩
  · have hb : bs = [] := List.length_eq_zero_iff.1 (by omega)
    subst hb
    refine ⟨.slice (some ⟨g, 0, none⟩) 0 0, w, ?_, ⟨some ⟨g, 0, none⟩, 0, rfl, fun h => by simp at h⟩, Fr.refl _ _, ⟨_, _, _, rfl⟩, fun k hk => hown.lt k hk⟩
    cases A <;> simp [Builtin.append_, Builtin.lenOf, Builtin.firstCells, run_underlying Try.underlying34, sizeOf, typeInfo, hi, storeCells, loadCells, loadCellsFrom]
theorem wpList_app_fresh {ops : Array Oper} {rest : List Oper} {o : Oper} {a : Act} {w : World} {Q : Exit → Act → World → Prop} (hgd : o.guard = none) (s x : Operand)
    (ho : o.op = .call { callee := .builtin .append, args := #[s, x], argTypes := #[34, 34] }) (B g : Nat) (hs : a.eval s = .slice (some ⟨g, 0, none⟩) 0 0) (hown : w.ownsRow B 5 1 (.slice (some ⟨g, 0, none⟩) 0 0) 0 [])
    (A : Option Addr) (n c : Nat) (bs : List UInt8) (hx : a.eval x = .slice A n c) (hr : RdB w (.slice A n c) bs) (hn : n ≤ 140737488355328) (hB : B ≤ w.heap.size)
    (h : ∀ va vn vc w', Hid (RdB w' (.slice va vn vc) bs) → Hid (Fr (One g) w w') → Hid (∀ k, (Value.slice va vn vc).ownBlock = some k → B ≤ k ∧ k < w'.heap.size) → wpList Try.prog ops Q rest (a.put o.dst (.slice va vn vc)) w') : wpList Try.prog ops Q (o :: rest) a w := by
  obtain ⟨v', w', hrun, h1, h2, ⟨va, vn, vc, rfl⟩, h3⟩ := run_app_fresh (ty := o.type) hown hr hn hB
  refine wpList_plain hgd fun K hK => ?_
  unfold Oper.wp execOp
  simp only [ho, resolve, invoke, builtin, Sem.run_bind, Sem.run_pure, Result.andThen_ok, List.map_toArray, List.map_cons, List.map_nil, hs, hx, hrun]
  exact hK _ _ (h va vn vc w' h1 h2 h3)
theorem step_app_fresh {ops : Array Oper} {o : Oper} {a : Act} {w : World} {K : Act → World → Prop} {Q : Exit → Act → World → Prop} {E : Prop} (hgd : o.guard = none) (s x : Operand)
    (ho : o.op = .call { callee := .builtin .append, args := #[s, x], argTypes := #[34, 34] }) (B g : Nat) (hs : a.eval s = .slice (some ⟨g, 0, none⟩) 0 0) (hown : w.ownsRow B 5 1 (.slice (some ⟨g, 0, none⟩) 0 0) 0 [])
    (A : Option Addr) (n c : Nat) (bs : List UInt8) (hx : a.eval x = .slice A n c) (hr : RdB w (.slice A n c) bs) (hn : n ≤ 140737488355328) (hB : B ≤ w.heap.size)
    (h : ∀ va vn vc w', Hid (RdB w' (.slice va vn vc) bs) → Hid (Fr (One g) w w') → Hid (∀ k, (Value.slice va vn vc).ownBlock = some k → B ≤ k ∧ k < w'.heap.size) → K (a.put o.dst (.slice va vn vc)) w') :
    if Region.wanted o (yielded ops a.tmps) = true then Oper.wp Try.prog o a w K Q else E := by
  have hw : Region.wanted o (yielded ops a.tmps) = true := by simp [Region.wanted, hgd]
  rw [if_pos hw]
  obtain ⟨v', w', hrun, h1, h2, ⟨va, vn, vc, rfl⟩, h3⟩ := run_app_fresh (ty := o.type) hown hr hn hB
  unfold Oper.wp execOp
  simp only [ho, resolve, invoke, builtin, Sem.run_bind, Sem.run_pure, Result.andThen_ok, List.map_toArray, List.map_cons, List.map_nil, hs, hx, hrun]
  exact h va vn vc w' h1 h2 h3

theorem Two.fresh {W wa wb w3 : World} {q u : Nat} {K M : Nat → Prop} {D E : Dv} (h : Two W wa q K u M D E) (fb : Fr Nob wa wb) {g : Nat} (hg : wa.heap.size ≤ g ∧ g < wb.heap.size) (f3 : Fr (One g) wb w3) : Two W w3 q K u M D E := by
  have hW := h.dl.fr.size
  have hkg : ¬ K g := fun hk => by
    have := h.dl.klt g hk
    omega
  have hmg : ∀ k, M k → ¬ One g k := fun k hk e => by
    have := h.rf.lt k hk
    have e : k = g := e
    omega
  have d1 := h.dl.more fb (N' := fun k => M k ∨ k = g) fun k hk => by
    rcases hk with h | h
    · exact .inl h
    · right
      rw [h]
      exact hg
  have d2 := d1.keep f3 (d1.fr.trans f3 fun i hi e => by
    have e : i = g := e
    omega) fun k hk _ => by
    have e : k = g := hk
    rw [e]
    exact ⟨.inr rfl, hkg⟩
  exact ⟨d2.less fun k hk => .inl hk, (h.rf.keep fb fun _ _ h => h).keep f3 hmg, h.ap, h.low⟩

set_option maxRecDepth 100000 in
set_option maxHeartbeats 4000000 in
theorem both_1 {W w : World} {q u : Nat} {K M : Nat → Prop} {D E : Dv} (h : Two W w q K u M D E) (x : Int) (A : Option Addr) (pn pc : Nat) (bs : List UInt8) :
    Calls Try.prog 41 #[.pointer (some ⟨q, 0, none⟩), .pointer (some ⟨u, 0, none⟩), .agg #[.int .i64 1, .int .i64 x, .slice A pn pc]] w (BothPost W q K u D E 1 x bs) := by
  have fa := (Fr.refl Nob w).alloc (.cells #[.int .i64 1, .int .i64 x, .slice A pn pc] 59)
  have h5 := heap_alloc_new w (.cells #[.int .i64 1, .int .i64 x, .slice A pn pc] 59)
  have T1 := Lib.hid (h.nob fa.drew)
  have c0 := cell_of_row _ w.heap.size 0 _ _ (0, 0) h5
  have c1 := cell_of_row _ w.heap.size 1 _ _ (0, 0) h5
  have DE := Lib.hid (T1.out.dl.erase_any x)
  have KB : Hid (¬ K w.heap.size) := Lib.hid (h.dl.fresh _ (Nat.le_refl _))
  have H5 := Lib.hid h5
  clear h fa h5
  go_enter Try.func41, Try.ntmps41
  go_wp2_with fail
  go_region_law (first
    | (go_simp; go_at_call 74; (with_reducible refine DE.out.mono ?_); rintro e w1 ⟨r1, rfl, d1, f1⟩; have T2 := Lib.hid (T1.out.dev d1 f1); have g1 := cell_of_row _ w.heap.size 1 _ _ (0, 0) (f1.heap H5.out KB.out); clear d1 f1)
    | (go_simp; go_at_call 79; refine (refErase_any T2.out.rf x).mono ?_; rintro e w2 ⟨r2, rfl, t⟩; have T3 := Lib.hid (T2.out.ref t); clear t))
  all_goals
    go_wp2_with fail
    go_ret
    obtain ⟨M', t⟩ := T3.out
    exact ⟨_, M', rfl, t⟩

set_option maxRecDepth 100000 in
set_option maxHeartbeats 4000000 in
theorem both_4 {W w : World} {q u : Nat} {K M : Nat → Prop} {D E : Dv} (h : Two W w q K u M D E) (x : Int) (A : Option Addr) (pn pc : Nat) (bs : List UInt8) (hr : RdB W (.slice A pn pc) bs) (hold : 0 < pn → ∀ k, (Value.slice A pn pc).ownBlock = some k → k < W.heap.size) (hn : pn ≤ 140737488355328) :
    Calls Try.prog 41 #[.pointer (some ⟨q, 0, none⟩), .pointer (some ⟨u, 0, none⟩), .agg #[.int .i64 4, .int .i64 x, .slice A pn pc]] w (BothPost W q K u D E 4 x bs) := by
  have fa := (Fr.refl Nob w).alloc (.cells #[.int .i64 4, .int .i64 x, .slice A pn pc] 59)
  have h5 := heap_alloc_new w (.cells #[.int .i64 4, .int .i64 x, .slice A pn pc] 59)
  obtain ⟨wa, hwa⟩ : ∃ wa, wa = w.alloc (.cells #[.int .i64 4, .int .i64 x, .slice A pn pc] 59) := ⟨_, rfl⟩
  have hsa : wa.heap.size = w.heap.size + 1 := by rw [hwa]; simp
  rw [← hwa] at fa h5
  have own0 : (wa.alloc (.cells #[] 5)).ownsRow wa.heap.size 5 1 (.slice (some ⟨wa.heap.size, 0, none⟩) 0 0) 0 [] := ⟨rfl, .inr ⟨wa.heap.size, 0, #[], rfl, Nat.le_refl _, heap_alloc_new wa _, Nat.le_refl _, by unfold maxLen; omega, rfl, rfl⟩⟩
  have fb := (Fr.refl Nob wa).alloc (.cells #[] 5)
  have TA := Lib.hid (h.nob fa)
  have FB := Lib.hid fb
  have T1 := Lib.hid ((h.nob fa).nob fb)
  have c0 := cell_of_row _ w.heap.size 0 _ _ (0, 0) h5
  have h5b := fb.heap h5 fun h => h
  have c2 := cell_of_row _ w.heap.size 2 _ _ (0, 0) h5b
  have RB := Lib.hid (hr.nob T1.out.dl.fr)
  have KB : Hid (¬ K w.heap.size) := Lib.hid (h.dl.fresh _ (Nat.le_refl _))
  have H5 := Lib.hid h5b
  have O0 := Lib.hid own0
  have HWA := Lib.hid hwa
  have SA := Lib.hid hsa
  have HR := Lib.hid hr
  have HOLD := Lib.hid hold
  have hB : wa.heap.size ≤ (wa.alloc (.cells #[] 5)).heap.size := fb.size
  have KL := Lib.hid h.dl.klt
  have ML := Lib.hid h.rf.lt
  clear h fa h5 fb h5b own0 hwa hsa hr hold
  go_enter Try.func41, Try.ntmps41
  go_upto_region 1 with fail
  rw [← HWA.out]
  go_wp2_with (with_reducible refine wpList_app_fresh (o := ⟨some 65, _, _, _, _, _⟩) rfl (.tmp 62) (.tmp 64) rfl wa.heap.size wa.heap.size rfl O0.out A pn pc bs rfl RB.out hn hB ?_)
  intro va vn vc w3 rb f3 hb
  have hgb : wa.heap.size ≤ wa.heap.size ∧ wa.heap.size < (wa.alloc (.cells #[] 5)).heap.size := ⟨Nat.le_refl _, by simp⟩
  have T3 := Lib.hid (TA.out.fresh FB.out hgb f3.out)
  have CR := Lib.hid (T3.out.dl.crash rb.out (by
    obtain ⟨a', c', he, _⟩ := HR.out
    simp only [Value.slice.injEq] at he
    omega) (fun k hk hkk => by
    have := (hb.out k hk).1
    have := KL.out k hkk
    have := SA.out
    omega))
  have G5 := Lib.hid (f3.out.heap H5.out fun e => by
    have e : w.heap.size = wa.heap.size := e
    have := SA.out
    omega)
  clear rb f3 hb c0 c2 RB T1 O0 hgb hB
  go_wp2_with fail
  refine CR.out.mono ?_
  rintro e w4 ⟨rfl, d4, f4⟩
  have T4 := Lib.hid (T3.out.dev d4 f4)
  have c2 := cell_of_row _ w.heap.size 2 _ _ (0, 0) (f4.heap G5.out KB.out)
  have RC := Lib.hid (refCrash_eq T4.out.rf (HR.out.nob T4.out.dl.fr) (fun h0 k hk hm => by
    have := HOLD.out h0 k hk
    have := T4.out.low k hm
    omega) (by omega))
  clear d4 f4 CR T3
  go_wp2_with fail
  refine RC.out.mono ?_
  rintro e w5 ⟨rfl, t⟩
  have T5 := Lib.hid (T4.out.ref t)
  clear t RC T4 c2
  go_wp2_with fail
  go_ret
  obtain ⟨M', t⟩ := T5.out
  exact ⟨_, M', rfl, t⟩

end Go.Proofs.Ytpdljgjofebgpaa
