/-
  Law 6: TombLasts, walked.
-/
import Derived.Test.YtpdljgjofebgpaaTombTorn
import Derived.Test.YtpdljgjofebgpaaSupH
namespace Go.Proofs.Ytpdljgjofebgpaa
open Go.RowKit Go.ChangeShapes Go.WideShapes Go.Deep

section
variable {W w : World} {q : Nat} {K : Nat → Prop} {D : Dv} {j m : Nat} {J : Jn}
theorem JL.arm (a : JL W w q K D j m J) {x : Int} (hx : (Lit.int .i64 x).wf = true) :
    Calls Try.prog 37 #[.pointer (some ⟨q, 0, none⟩), .int .i64 x] w fun e w' => e = .returned (.tuple #[]) ∧ JL W w' q K (D.armed x) j m J ∧ Fr K w w' := by
  refine (a.dl.arm hx).mono ?_
  rintro e w' ⟨rfl, d, f⟩
  exact ⟨rfl, ⟨d, a.ji.keep f a.kj a.km, a.kj, a.km, a.wj, a.wm, a.lt, a.le, a.us⟩, f⟩
end

/-- What an Add does, whatever the power does: the lists that are sure. -/
def Sure6 (ps : List (List Mk)) (l : List Mk) (r : Int) (ps' : List (List Mk)) : Prop := (r = 0 ∧ (ps' = ps ++ [l] ∨ (l = [] ∧ ps' = ps))) ∨ (r = 4 ∧ ps' = ps)

/-- append of nothing. -/
theorem wpList_app_none {P : Program} {ops : Array Oper} {rest : List Oper} {o : Oper} {a : Act} {w : World} {Q : Exit → Act → World → Prop} (hgd : o.guard = none) (s x : Operand) (t : TypeId)
    (ho : o.op = .call { callee := .builtin .append, args := #[s, x], argTypes := #[t, t] })
    (e : TypeId) (z : Array Value) (size bytes : Nat) (ht : P.underlying t = some (.slice e))
    (hz : (P.info? e).map (fun i => (i.zero.map Value.cells, i.size, i.bytes)) = some (some z, size, bytes))
    (b : Option Addr) (n cap : Nat) (hle : n ≤ cap) (hs : a.eval s = .slice b n cap) (b2 : Option Addr) (c : Nat) (hx : a.eval x = .slice b2 0 c)
    (h : wpList P ops Q rest (a.put o.dst (.slice b n cap)) w) : wpList P ops Q (o :: rest) a w := by
  cases hq : P.info? e with
  | none => simp [hq] at hz
  | some i =>
    have hr : (Builtin.append_ #[t, t] o.type #[.slice b n cap, .slice b2 0 c]).run P w = .ok (.slice b n cap) w := by
      cases b <;> cases b2 <;> simp [Builtin.append_, Builtin.lenOf, Builtin.firstCells, run_underlying ht, sizeOf, typeInfo, hq, hle, storeCells, loadCells, loadCellsFrom]
    refine wpList_plain hgd fun K hK => ?_
    unfold Oper.wp execOp
    simp only [ho, resolve, invoke, builtin, Sem.run_bind, Sem.run_pure, Result.andThen_ok, List.map_toArray, List.map_cons, List.map_nil, hs, hx, hr]
    exact hK _ _ h
theorem row_cap {w : World} {base size n cap : Nat} {e : TypeId} {a : Option Addr} {xs : List Value} (h : w.ownsRow base e size (.slice a n cap) n xs) : n ≤ cap := by
  rcases h.2 with ⟨h1, h0⟩ | ⟨g, cap', cur, h1, _, _, h2, _⟩
  · omega
  · simp only [Value.slice.injEq] at h1
    obtain ⟨_, _, rfl⟩ := h1
    exact h2

/-- A block turns that pages avoid, new blocks come that they avoid. -/
theorem DL.grow {W w w' : World} {q : Nat} {K N N' T : Nat → Prop} {D : Dv} (h : DL W w q K N D) (f : Fr T w w') (fw : Fr Nob W w') (hT : ∀ k, T k → k < w.heap.size → N k ∧ ¬ K k) (hN : ∀ k, N' k → N k ∨ (w.heap.size ≤ k ∧ k < w'.heap.size)) : DL W w' q K N' D := by
  obtain ⟨P, s, f0, h1, h2, h3⟩ := h
  refine ⟨P, s.keep f (fun k hk ht => (hT k ht (s.lt k hk)).2 hk) (fun k hk ht => h3 k hk (hT k ht (s.plt k hk)).1), fw, h1, fun k hk => ?_, fun k hp hk => ?_⟩
  · rcases hN k hk with h | h
    · exact Nat.lt_of_lt_of_le (h2 k h) f.size
    · exact h.2
  · rcases hN k hk with h | h
    · exact h3 k hp h
    · have := s.plt k hp
      omega

/-- As JL, with more blocks that pages avoid. -/
structure JN (W w : World) (q : Nat) (K N : Nat → Prop) (D : Dv) (j m : Nat) (J : Jn) : Prop where
  dl : DL W w q K N D
  nj : N j
  nm : N m
  ji : JIs w q j m J
  kj : ¬ K j
  km : ¬ K m
  wj : W.heap.size ≤ j
  wm : W.heap.size ≤ m
  lt : J.first + J.pages ≤ D.pg.length
  le : D.pg.length ≤ 4096
theorem JN.of {W w : World} {q : Nat} {K N : Nat → Prop} {D : Dv} {j m : Nat} {J : Jn} (a : JL W w q K D j m J) (h : ∀ k, N k → k = j ∨ k = m) (hj : N j) (hm : N m) : JN W w q K N D j m J := ⟨a.dl.less h, hj, hm, a.ji, a.kj, a.km, a.wj, a.wm, a.lt, a.le⟩
theorem JN.fr {W w : World} {q : Nat} {K N : Nat → Prop} {D : Dv} {j m : Nat} {J : Jn} (a : JN W w q K N D j m J) : Fr Nob W w := a.dl.fr

theorem JN.add_power {W w : World} {q : Nat} {K N : Nat → Prop} {D : Dv} {j m : Nat} {J : Jn} {ps : List (List Mk)} (a : JN W w q K N D j m J) (v : LInv D J ps) (hps : ps.length < 12) {u : Value} {l : List Mk} (hv : RdM w u l) (hl : GoodL l) (hvk : 0 < l.length → ∀ k, u.ownBlock = some k → ¬ K k ∧ k ≠ j ∧ k ≠ m) :
    Calls Try.prog 50 #[.pointer (some ⟨j, 0, none⟩), u] w fun e w' => ∃ r, e = .returned (.int .i64 r) ∧ ∃ D' J' ps', JN W w' q K N D' j m J' ∧ LInv D' J' ps' ∧ Sure6 ps l r ps' ∧ Fr (fun k => K k ∨ k = j ∨ k = m) w w' := by
  by_cases h0 : 0 < l.length
  · rcases v.pw with ⟨hon, hloss, hused, hst⟩ | ⟨hoff, hloss⟩
    · refine (add_eq a.dl a.ji hv h0 hl.1 (by rw [v.jl, hloss]) a.lt a.le (by rw [hused, v.jp]; exact hps) ⟨a.nj, a.nm⟩ ⟨a.kj, a.km⟩ ⟨a.wj, a.wm⟩ (hvk h0)).mono ?_
      rintro e w' ⟨rfl, r⟩
      have mk : ∀ ps', LInv (addTo D J l).2.1 (addTo D J l).2.2 ps' → JN W w' q K N (addTo D J l).2.1 j m (addTo D J l).2.2 := fun ps' h => ⟨r.dl, a.nj, a.nm, r.ji, a.kj, a.km, a.wj, a.wm, by rw [h.jf, h.jp, h.len]; omega, by rw [h.len]; omega⟩
      rcases v.add hon hl hps with ⟨h1, h2⟩ | ⟨h1, h2⟩
      · exact ⟨_, rfl, _, _, _, mk _ h2, h2, .inr ⟨h1, rfl⟩, r.fr⟩
      · exact ⟨_, rfl, _, _, _, mk _ h2, h2, .inl ⟨h1, .inl rfl⟩, r.fr⟩
    · refine (add_lost a.dl a.ji hv h0 hl.1 (by rw [v.jl, hloss]; show (0 : Int) ≠ 1; omega)).mono ?_
      rintro e w' ⟨rfl, f⟩
      exact ⟨4, rfl, _, _, _, ⟨a.dl.nob f, a.nj, a.nm, a.ji.nob f, a.kj, a.km, a.wj, a.wm, a.lt, a.le⟩, v, .inr ⟨rfl, rfl⟩, f.nob⟩
  · have : l = [] := List.length_eq_zero_iff.1 (by omega)
    subst this
    refine (add_none hv).mono ?_
    rintro e w' ⟨rfl, rfl⟩
    exact ⟨0, rfl, _, _, _, a, v, .inl ⟨rfl, .inr ⟨rfl, rfl⟩⟩, Fr.refl _ _⟩

set_option maxRecDepth 100000 in
set_option maxHeartbeats 8000000 in
theorem tombLasts_main (A : Option Addr) (n cap : Nat) (z : Nat → Option Addr × Nat × Nat) (l : Nat → List Mk) (arm : Int) (PA : Option Addr) (pn pc : Nat) (pl : List UInt8) (w : World) (hz : InMM w A n z l) (harm : (Lit.int .i64 arm).wf = true) (hpi : InB w PA pn pc pl) (hn : n ≤ 12) :
    Calls Try.prog 22 #[.slice A n cap, .int .i64 arm, .slice PA pn pc] w fun e w' => e = .returned (.bool true) ∧ Fr Nob w w' := by
  have Z := Lib.hid hz
  have AR := Lib.hid harm
  have PI := Lib.hid hpi
  have e1 : ¬ (12 : Int) < (n : Int) := by omega
  clear hz harm hpi
  go_enter Try.func22, Try.ntmps22
  go_wp2_with fail
  refine (awake6_eq w).mono ?_
  rintro e w0 ⟨rfl, f0⟩
  have F0 := Lib.hid f0
  clear f0
  go_wp2_with fail
  refine (DL.new (n := 14) F0.out (by omega) (by omega)).mono ?_
  rintro e w1 ⟨q, K, rfl, d, _, _⟩
  have OP := Lib.hid (JL.opened d rfl (first := 1) (pages := 12) (gen := 7) (by omega) (by simp [Dv.new]) (by simp [Dv.new]))
  clear d
  go_wp2_with fail
  refine OP.out.mono ?_
  rintro e w2 ⟨j, rfl, m, D1, a1, lk1, _⟩
  rw [opened_none (show (Dv.new 14).now 1 = .blank from rfl), show (Dv.new 14).loss = 0 from rfl] at a1
  have V1 := Lib.hid (LInv.start lk1 arm)
  have AM := Lib.hid (a1.arm AR.out)
  clear a1 lk1 OP
  go_wp2_with fail
  refine AM.out.mono ?_
  rintro e w3 ⟨rfl, a3, _⟩
  have A3 : Hid (JN w w3 q K (fun k => k = j ∨ k = m ∨ (Value.slice none 0 0).ownBlock = some k) (D1.armed arm) j m ⟨1, 12, 7, 0, 0, []⟩) := Lib.hid (.of a3 (fun k h => by
    rcases h with h | h | h
    · exact .inl h
    · exact .inr h
    · cases h) (.inl rfl) (.inr (.inl rfl)))
  have NF := Lib.hid a3.new
  have W3 := Lib.hid a3.fr.size
  clear a3 AM
  go_wp2_with fail
  go_loopw [11, 12] (fun u i wr => ∃ (k : Nat) (D : Dv) (J : Jn) (ps : List (List Mk)) (fl : List Mk), k ≤ n ∧ i = .int .i64 k ∧ Hid (ps.flatten = fl) ∧ Hid (JN w wr q K (fun k => k = j ∨ k = m ∨ u.ownBlock = some k) D j m J) ∧ Hid (LInv D J ps) ∧ Hid (ps.length ≤ k) ∧ Hid (wr.ownsRow w3.heap.size 80 2 u fl.length (mksV fl)) ∧ Hid (fl.length ≤ 23 * k) ∧ Hid (w3.heap.size ≤ wr.heap.size)) (fun _ i _ => n - (intOf i).toNat)
  case atStart => exact ⟨0, _, _, [], [], Nat.zero_le _, rfl, Lib.hid rfl, A3, V1, Lib.hid (Nat.le_refl _), Lib.hid (World.ownsRow_nil _ _ _ _), Lib.hid (Nat.zero_le _), Lib.hid (Nat.le_refl _)⟩
  case round =>
    clear A3 V1
    obtain ⟨k, D, J, ps, fl, hk, rfl, HFL, A2, V2, P2, own, FL, WR3⟩ := hrel
    by_cases hlt : k < n
    · have hki : (k : Int) < (n : Int) := by omega
      obtain ⟨b, o, rfl, hcw, _⟩ := Z.out.cell hlt
      have EL := Lib.hid (Z.out.el k hlt)
      generalize l k = lk at *
      generalize (z k).1 = za at *
      generalize (z k).2.1 = zn at *
      generalize (z k).2.2 = zc at *
      have HCW := Lib.hid hcw
      have hc := A2.out.fr.cell hcw fun h => h
      clear hcw
      by_cases hs2 : 23 < zn
      · have hs2' : (23 : Int) < (zn : Int) := by omega
        go_wp2_with fail
        go_ret
        exact ⟨rfl, A2.out.fr⟩
      · have hs2' : ¬ (23 : Int) < (zn : Int) := by omega
        have HGL : Hid (GoodL lk) := Lib.hid ⟨by rw [EL.out.len]; omega, EL.out.ok⟩
        have AD := Lib.hid (A2.out.add_power V2.out (by have := P2.out; omega) (EL.out.rd.nob A2.out.fr) HGL.out (fun h0 i hi => by
          have h1 := EL.out.old (by rw [← EL.out.len]; exact h0) i hi
          refine ⟨fun h => ?_, fun e => ?_, fun e => ?_⟩
          · have := A2.out.dl.kle i h; omega
          · have := A2.out.wj; omega
          · have := A2.out.wm; omega))
        go_wp2_with fail
        refine AD.out.mono ?_
        rintro e w5 ⟨r, rfl, D5, J5, ps5, a5, v5, s5, f5⟩
        have A5 := Lib.hid a5
        have V5 := Lib.hid v5
        have own5 := f5.ownsRow own.out fun i hi h => by
          have h1 := NF.out i (own.out.lt i hi).1
          rcases h with h | h | h
          · exact h1.1 h
          · exact h1.2.1 h
          · exact h1.2.2 h
        have OWN5 := Lib.hid own5
        have hc' := a5.fr.cell HCW.out fun h => h
        obtain ⟨ua, uc, hu⟩ : ∃ a c', u11 = .slice a fl.length c' := by
          obtain ⟨a, c', h, _⟩ := RdM.of_row own5
          exact ⟨a, c', h⟩
        have B5 : Hid (w3.heap.size ≤ w5.heap.size) := Lib.hid (by
          have h1 := f5.size
          have h2 := own.out
          exact Nat.le_trans WR3.out h1)
        clear a5 v5 own5 f5 AD hc own
        rcases s5 with ⟨rfl, h5⟩ | ⟨rfl, h5⟩
        · have P5 : Hid (ps5.length ≤ k + 1) := Lib.hid (by
            have := P2.out
            rcases h5 with h | ⟨_, h⟩
            · rw [h]; simp; omega
            · rw [h]; omega)
          have HF5 : Hid (ps5.flatten = fl ++ lk) := Lib.hid (by
            rcases h5 with h | ⟨h, h'⟩
            · rw [h, ← HFL.out]; simp
            · rw [h', h, HFL.out]; simp)
          obtain ⟨fl5, hf5⟩ : ∃ x, x = fl ++ lk := ⟨_, rfl⟩
          rw [← hf5] at HF5
          have FE := Lib.hid hf5
          clear hf5
          have FL5 : Hid (fl5.length ≤ 23 * (k + 1)) := Lib.hid (by
            rw [FE.out, List.length_append]
            have := FL.out
            have := HGL.out.1
            omega)
          by_cases h0 : 0 < lk.length
          · obtain ⟨a', cap', he, hcc⟩ := EL.out.rd
            simp only [Value.slice.injEq] at he
            obtain ⟨rfl, hzl, rfl⟩ := he
            obtain ⟨g, o2, rfl, hcell⟩ := hcc h0
            have NEWS : Hid (∀ i u, (mksV lk)[i]? = some u → w5.cell? ((⟨g, o2, none⟩ : Addr).add i) = some u) := Lib.hid fun i u hu => by
              have hadd : (⟨g, o2, none⟩ : Addr).add i = ⟨g, o2 + i, none⟩ := by unfold Addr.add; split <;> simp_all
              rw [hadd]
              have hi : i < lk.length * 2 := by rw [← mksV_len]; exact (List.getElem?_eq_some_iff.1 hu).1
              obtain ⟨n1, n2⟩ := mksV_at lk (i / 2) (by omega)
              obtain ⟨c1, c2⟩ := hcell (i / 2) (by omega)
              refine A5.out.fr.cell ?_ fun h => h
              by_cases e : i % 2 = 0
              · rw [show i = i / 2 * 2 by omega] at hu ⊢
                rw [n1] at hu
                rw [c1]
                exact hu
              · rw [show i = i / 2 * 2 + 1 by omega] at hu ⊢
                rw [n2] at hu
                rw [← Nat.add_assoc, c2]
                exact hu
            have LE := Lib.hid EL.out.len
            have H23 := Lib.hid (HGL.out.1)
            have FLB : Hid (fl.length ≤ 300) := Lib.hid (by have := FL.out; omega)
            have ONE := Lib.hid (mksV_one lk)
            have LN2 := Lib.hid (mksV_len lk)
            clear hcell hcc hzl
            subst hu
            go_wp2_with (with_reducible refine wpList_app (o := ⟨some 59, _, _, _, _, _⟩) rfl (.tmp 54) (.tmp 58) 74 rfl 80 #[.int .u64 0, .int .u64 0] 2 16 Try.underlying74 mk_info rfl (by omega) w3.heap.size (.slice ua fl.length uc) fl.length (mksV fl) rfl OWN5.out ⟨g, o2, none⟩ zn zc (mksV lk) rfl (by rw [LN2.out, LE.out]) NEWS.out ONE.out (by have := FLB.out; omega) (by have := FLB.out; omega) B5.out ?_)
            intro v' w6 o6 f6 h6
            have OWN7 : Hid (w6.ownsRow w3.heap.size 80 2 v' fl5.length (mksV fl5)) := Lib.hid (by
              rw [FE.out, List.length_append, mksV_append, LE.out]
              exact o6.out)
            have B6 : Hid (w3.heap.size ≤ w6.heap.size) := Lib.hid (Nat.le_trans B5.out f6.out.size)
            have A6 : Hid (JN w w6 q K (fun k => k = j ∨ k = m ∨ v'.ownBlock = some k) D5 j m J5) := Lib.hid (by
              have hOW : ∀ i, (Value.slice ua fl.length uc).ownBlock = some i → w3.heap.size ≤ i := fun i hi => (OWN5.out.lt i hi).1
              have fw : Fr Nob w w6 := A5.out.fr.trans f6.out fun i hi e => by have := hOW i e; have := W3.out; omega
              have nb : ∀ i, (Value.slice ua fl.length uc).ownBlock = some i → ¬ K i ∧ i ≠ j ∧ i ≠ m := fun i hi => NF.out i (hOW i hi)
              refine ⟨A5.out.dl.grow f6.out fw (fun i hi _ => ⟨.inr (.inr hi), (nb i hi).1⟩) (fun i hi => ?_), .inl rfl, .inr (.inl rfl), A5.out.ji.keep f6.out (fun e => (nb j e).2.1 rfl) (fun e => (nb m e).2.2 rfl), A5.out.kj, A5.out.km, A5.out.wj, A5.out.wm, A5.out.lt, A5.out.le⟩
              rcases hi with hi | hi | hi
              · exact .inl (.inl hi)
              · exact .inl (.inr (.inl hi))
              · rcases h6.out with h | h
                · exact .inl (.inr (.inr (by rw [← h]; exact hi)))
                · have e : i = w5.heap.size := by rw [h] at hi; exact (Option.some.inj hi).symm
                  refine .inr ⟨by omega, ?_⟩
                  rw [e]
                  have := (o6.out.lt i hi).2
                  omega)
            clear o6 f6 h6 A5 OWN5
            go_wp2_with fail
            go_roundw
            case rel => exact ⟨k + 1, D5, J5, ps5, fl5, by omega, by go_num, HF5, A6, V5, P5, OWN7, FL5, B6⟩
            case measure => simp [intOf]; omega
          · have hl0 : lk = [] := List.length_eq_zero_iff.1 (by omega)
            have hzn : zn = 0 := by rw [← EL.out.len, hl0]; rfl
            have OWN7 : Hid (w5.ownsRow w3.heap.size 80 2 u11 fl5.length (mksV fl5)) := Lib.hid (by rw [FE.out, hl0, List.append_nil]; exact OWN5.out)
            have FEL : Hid (fl5 = fl) := Lib.hid (by rw [FE.out, hl0, List.append_nil])
            subst hzn
            subst hu
            clear h0 hl0 EL
            go_wp2_with (with_reducible refine wpList_app_none (o := ⟨some 59, _, _, _, _, _⟩) rfl (.tmp 54) (.tmp 58) 74 rfl 80 #[.int .u64 0, .int .u64 0] 2 16 Try.underlying74 mk_info ua fl.length uc (row_cap OWN5.out) rfl za zc rfl ?_)
            go_roundw
            case rel => exact ⟨k + 1, D5, J5, ps5, fl5, by omega, by go_num, HF5, A5, V5, P5, OWN7, FL5, B5⟩
            case measure => simp [intOf]; omega
        · have hd : ((4 : Int) == 0) = false := by decide
          have P5 : Hid (ps5.length ≤ k + 1) := Lib.hid (by rw [h5]; have := P2.out; omega)
          have OWN7 : Hid (w5.ownsRow w3.heap.size 80 2 u11 fl.length (mksV fl)) := Lib.hid OWN5.out
          have HF5 : Hid (ps5.flatten = fl) := Lib.hid (by rw [h5]; exact HFL.out)
          have FL5 : Hid (fl.length ≤ 23 * (k + 1)) := Lib.hid (by have := FL.out; omega)
          clear h5 hu
          go_wp2_with fail
          go_roundw
          case rel => exact ⟨k + 1, D5, J5, ps5, fl, by omega, by go_num, HF5, A5, V5, P5, OWN7, FL5, B5⟩
          case measure => simp [intOf]; omega
    · have hke : k = n := by omega
      subst hke
      obtain ⟨ua, uc, hu⟩ : ∃ a c', u11 = .slice a fl.length c' := by
        obtain ⟨a, c', h, _⟩ := RdM.of_row own.out
        exact ⟨a, c', h⟩
      have NU := Lib.hid fun i hi => NF.out i (own.out.lt i hi).1
      have CR := Lib.hid (A2.out.dl.crash (PI.out.rd.nob A2.out.fr) (by rw [PI.out.len]; have := PI.out.le; have := PI.out.max; omega) (fun i hi h => by have := PI.out.old i hi; have := A2.out.dl.kle i h; omega))
      have KN := Lib.hid (V2.out.known pl (by have := P2.out; omega))
      have L7 : Hid ((D.crash pl).on.pg.length = 14) := Lib.hid (by rw [crash_on_len]; exact V2.out.len)
      have RM := Lib.hid (RdM.of_row own.out)
      have FLB : Hid (fl.length ≤ 300) := Lib.hid (by have := FL.out; omega)
      subst hu
      go_wp2_with fail
      refine CR.out.mono ?_
      rintro e w5 ⟨rfl, d5, f5⟩
      have RM5 := Lib.hid (RM.out.keep f5 fun i hi => (NU.out i hi).1)
      have ON := Lib.hid d5.on
      clear d5 f5 CR RM
      go_wp2_with fail
      refine ON.out.mono ?_
      rintro e w6 ⟨rfl, d6, f6⟩
      have RM6 := Lib.hid (RM5.out.keep f6 fun i hi => (NU.out i hi).1)
      have OP := Lib.hid (JL.opened (d6.less (N' := Nob) fun _ h => h.elim) rfl (first := 1) (pages := 12) (gen := 7) (by omega) (by rw [L7.out]; omega) (by rw [L7.out]; omega))
      clear d6 f6 ON RM5
      go_wp2_with fail
      refine OP.out.mono ?_
      rintro e w7 ⟨kj, rfl, km, D8, a8, _, f7⟩
      have RM7 := Lib.hid (RM6.out.keep f7 fun i hi => (NU.out i hi).1)
      have A8 := Lib.hid a8
      have KN2 : Hid (∀ m, m ∈ fl → goneB (opened (D.crash pl).on 1 12 7).M m.1 m.2 = true) := Lib.hid (by rw [← HFL.out]; exact KN.out)
      generalize opened (D.crash pl).on 1 12 7 = J7 at *
      clear a8 f7 OP RM6 KN A2 V2 own L7
      go_wp2_with fail
      go_loopw [15] (fun i wr => ∃ s : Nat, s ≤ fl.length ∧ i = .int .i64 s ∧ Hid (JL w wr q K D8 kj km J7) ∧ Hid (RdM wr (.slice ua fl.length uc) fl)) (fun i _ => fl.length - (intOf i).toNat)
      case atStart => exact ⟨0, Nat.zero_le _, rfl, A8, RM7⟩
      case round =>
        clear A8 RM7
        obtain ⟨s, hs, rfl, A9, RM⟩ := hrel
        have hb3 := FLB.out
        by_cases hsl : s < fl.length
        · have hsi : (s : Int) < (fl.length : Int) := by omega
          obtain ⟨a', cap', he, hcc⟩ := RM.out
          simp only [Value.slice.injEq, true_and] at he
          obtain ⟨rfl, rfl⟩ := he
          obtain ⟨g, o2, rfl, hcell⟩ := hcc (by omega)
          obtain ⟨c0, c1⟩ := hcell s hsl
          have GB := Lib.hid (KN2.out (fl.getD s (0, 0)) (by rw [List.getD_eq_getElem?_getD, List.getElem?_eq_getElem hsl]; exact List.getElem_mem hsl))
          generalize fl.getD s (0, 0) = mk at *
          obtain ⟨x, y⟩ := mk
          have GN : Hid (∀ nq, Calls Try.prog 54 #[.pointer (some ⟨kj, 0, none⟩), .int .u64 (x : Int), .int .u64 (y : Int)] (wr.drewN nq) fun e w' => e = .returned (.bool true) ∧ wr.drewN nq = w') := Lib.hid fun nq => (A9.out.nob ((Fr.refl Nob wr).drewN nq)).gone x y true GB.out
          clear hcell hcc
          go_wp2_with fail
          go_quiet ((go_at_call 54; exact quietL (GN.out _)))
          have A10 := Lib.hid (A9.out.nob ((Fr.refl Nob wr).drewN nq))
          have RM10 := Lib.hid (RM.out.nob ((Fr.refl Nob wr).drewN nq))
          go_wp2_with fail
          go_roundw
          case rel => exact ⟨s + 1, by omega, by go_num, A10, RM10⟩
          case measure => simp [intOf]; omega
        · have hse : s = fl.length := by omega
          subst hse
          go_wp2_with fail
          go_ret
          exact ⟨rfl, A9.out.fr⟩

set_option maxHeartbeats 1000000 in
theorem tombLasts_walk (A : Option Addr) (n cap : Nat) (zl : (Nat → Option Addr × Nat × Nat) × (Nat → List Mk)) (arm : Int) (PA : Option Addr) (pn pc : Nat) (pl : List UInt8) (w : World) (hz : InMM w A n zl.1 zl.2) (harm : (Lit.int .i64 arm).wf = true) (hpi : InB w PA pn pc pl) :
    Calls Try.prog 22 #[.slice A n cap, .int .i64 arm, .slice PA pn pc] w fun e w' => e = .returned (.bool true) ∧ Fr Nob w w' := by
  by_cases h1 : n ≤ 12
  · exact tombLasts_main A n cap zl.1 zl.2 arm PA pn pc pl w hz harm hpi h1
  · have h1' : (12 : Int) < (n : Int) := by omega
    go_enter Try.func22, Try.ntmps22
    go_wp2_with fail
    refine (awake6_eq w).mono ?_
    rintro e w0 ⟨rfl, f0⟩
    go_wp2_with fail
    go_ret
    exact ⟨rfl, f0⟩

end Go.Proofs.Ytpdljgjofebgpaa
