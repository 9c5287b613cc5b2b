/-
  Law 5: SuperPlays: alike; the device, the reference and blocks beside them; Store, plain. (Printed by gen/plays5.py.)
-/
import Derived.Test.YtpdljgjofebgpaaRefU
import Derived.Test.YtpdljgjofebgpaaRefS
import Derived.Test.YtpdljgjofebgpaaSupJ
namespace Go.Proofs.Ytpdljgjofebgpaa
open Go.RowKit

theorem Alk.drewN {W w w1 : World} {q u : Nat} {K M M1 : Nat → Prop} {D D1 : Dv} (h : Alk W w q K u M D w1 M1 D1) (m : Nat) : Alk W w q K u M D (w1.drewN m) M1 D1 :=
  ⟨h.two.nob ((Fr.refl Nob w1).drewN m), h.fr.drewN m, h.mo, h.pg, h.off⟩

set_option maxRecDepth 100000 in
set_option maxHeartbeats 4000000 in
theorem alike5_eq {W w : World} {q u : Nat} {K M : Nat → Prop} {D : Dv} (h : Two W w q K u M D D) :
    Calls Try.prog 60 #[.pointer (some ⟨q, 0, none⟩), .pointer (some ⟨u, 0, none⟩)] w fun e w' => e = .returned (.bool true) ∧ ∃ M' D', Alk W w q K u M D w' M' D' := by
  have A0 : Hid (Alk W w q K u M D w M D) := Lib.hid ⟨h, Fr.refl _ _, fun _ h => .inl h, rfl, rfl⟩
  clear h
  obtain ⟨n, hn⟩ : ∃ n, n = D.pg.length := ⟨_, rfl⟩
  have HN := Lib.hid hn
  have hmost : n ≤ 4096 := by
    obtain ⟨gl, cl, gn, cn, gw, cw, s, _⟩ := A0.out.two.rf
    rw [hn]
    exact s.most
  clear hn
  go_enter Try.func60, Try.ntmps60
  go_wp2_with fail
  go_loopw [5] (fun i wr => ∃ (k : Nat) (M' : Nat → Prop) (D' : Dv), k ≤ n ∧ i = .int .i64 k ∧ Hid (Alk W w q K u M D wr M' D')) (fun i _ => n - (intOf i).toNat)
  case atStart => exact ⟨0, _, _, Nat.zero_le _, rfl, A0⟩
  case round =>
    clear A0
    obtain ⟨k, M1, D1, hk, rfl, A1⟩ := hrel
    have HL : Hid (D1.pg.length = n) := Lib.hid (by rw [HN.out, A1.out.pg])
    have PG := Lib.hid A1.out.two.dl.pages
    rw [HL.out] at PG
    go_wp2_with fail
    refine PG.out.mono ?_
    rintro e _ ⟨rfl, rfl⟩
    clear PG
    by_cases hlt : k < n
    · have hki : (k : Int) < (n : Int) := by omega
      cases ho : D1.off with
      | true =>
        have RD := Lib.hid (A1.out.two.dl.read_off (i := k) (by rw [HL.out]; exact hlt) ho)
        have RF := Lib.hid (refRead_off A1.out.two.rf (i := k) (by rw [HL.out]; exact hlt) ho)
        have CV : (convert 34 9 (.slice none 0 0)).run Try.prog wr = .ok (.string ⟨#[]⟩) wr := (RdB.nil wr 0).text _ _ _ Try.underlying34 Try.underlying5 Try.underlying9
        go_wp2_with fail
        refine RD.out.mono ?_
        rintro e _ ⟨rfl, rfl⟩
        go_wp2_with fail
        refine RF.out.mono ?_
        rintro e _ ⟨rfl, rfl⟩
        go_wp2_with fail
        go_roundw
        case rel => exact ⟨k + 1, M1, D1, by omega, by go_num, A1⟩
        case measure => simp [intOf]; omega
      | false =>
        obtain ⟨p, hp⟩ : ∃ p, p = D1.now k := ⟨_, rfl⟩
        have RD := Lib.hid (A1.out.two.dl.read_any (i := k) (by rw [HL.out]; exact hlt) ho p hp.symm)
        have HO := Lib.hid ho
        have HP := Lib.hid hp
        clear ho hp
        go_wp2_with fail
        refine RD.out.mono ?_
        rintro e w2 ⟨v, rfl, rc, d2, f2, hv⟩
        have T2 := Lib.hid (A1.out.two.dev d2 f2)
        have F2 := Lib.hid f2
        have RC := Lib.hid rc
        have RF := Lib.hid (refRead_eq T2.out.rf (i := k) (by rw [HL.out]; exact hlt) HO.out)
        rw [← HP.out, txt_pgB, rdE_pgE] at RF
        have HV : Hid (∀ k, v.ownBlock = some k → wr.heap.size ≤ k) := Lib.hid hv
        clear rc d2 f2 hv RD
        go_wp2_with fail
        refine RF.out.mono ?_
        rintro e w3 ⟨rfl, t⟩
        have T3 := Lib.hid (T2.out.ref' t)
        obtain ⟨M3, T3, F3, hs3⟩ := T3.out
        have A3 : Hid (Alk W w q K u M D w3 M3 D1.read) := Lib.hid ⟨T3, (A1.out.dev F2.out).trans F3 fun i hi hm => by
            rcases A1.out.mo i hm with h | h
            · exact .inr h
            · omega, fun k hk => by
            rcases hs3 k hk with h | h
            · exact A1.out.mo k h
            · have := (A1.out.dev F2.out).size
              omega, A1.out.pg, A1.out.off⟩
        have RB : RdB w3 v (pgB p) := RC.out.1.keep F3 fun k hk hm => by
          have := HV.out k hk
          have := A1.out.two.rf.lt k hm
          omega
        have CV : (convert 34 9 v).run Try.prog w3 = .ok (.string ⟨(pgB p).toArray⟩) w3 := RB.text _ _ _ Try.underlying34 Try.underlying5 Try.underlying9
        clear RB T2 T3 F3 hs3 RF F2 RC HV t
        go_wp2_with fail
        go_roundw
        case rel => exact ⟨k + 1, M3, D1.read, by omega, by go_num, A3⟩
        case measure => simp [intOf]; omega
    · have hki : ¬ (k : Int) < (n : Int) := by omega
      have LO := Lib.hid fun (m : Nat) => (A1.out.two.dl.nob ((Fr.refl Nob wr).drewN m)).losses
      have PO := Lib.hid fun (m : Nat) => (A1.out.two.dl.nob ((Fr.refl Nob wr).drewN m)).power
      obtain ⟨gl, cl, gn, cn, gw, cw, s, hM⟩ := A1.out.two.rf
      obtain ⟨_, _, _, c3, _, c5, _⟩ := s.cells
      clear s hM
      generalize D1.loss = lo at *
      generalize D1.off = of at *
      go_wp2_with fail
      go_quiet ((first
        | (go_at_call 39; exact quietL (LO.out _))
        | (go_at_call 38; exact quietL (PO.out _))))
      go_wp2_with fail
      go_ret
      refine ⟨?_, M1, D1, A1.out.drewN _⟩
      cases of <;> rfl


theorem PgAt.len5 {w : World} {P : Nat → Prop} {v : Value} {p : Pg} (h : PgAt w P v p) : (pgB p).length ≤ 384 := by
  cases p with
  | blank => exact Nat.zero_le _
  | torn => exact Nat.zero_le _
  | whole bs =>
    obtain ⟨_, _, _, _, _, _, _, h6⟩ := h
    exact Nat.le_of_eq h6
theorem DL.pg_len5 {W w : World} {q : Nat} {K N : Nat → Prop} {D : Dv} (h : DL W w q K N D) {i : Nat} (hi : i < D.pg.length) : (pgB (D.now i)).length ≤ 384 := by
  obtain ⟨P, ⟨g, cap, m, vals, L, s, hK, hP⟩, _⟩ := h
  obtain ⟨c, hc⟩ : ∃ c, D.pg[i]? = some c := ⟨_, List.getElem?_eq_getElem hi⟩
  have hn : D.now i = Pc.now c := by
    unfold Dv.now
    rw [List.getD_eq_getElem?_getD, hc]
    rfl
  rw [hn]
  unfold Pc.now
  cases e : c.2 with
  | none =>
    obtain ⟨v, _, a⟩ := s.fl i c hc
    exact a.len5
  | some p =>
    have a := s.wt i c hc
    rw [e] at a
    obtain ⟨v, _, a⟩ := a
    exact a.len5

/-- The device, the reference, blocks that lie beside them. -/
def PL (W w : World) (q : Nat) (K : Nat → Prop) (u : Nat) (D E : Dv) (S : List (Nat × Obj)) : Prop :=
  ∃ M, Two W w q K u M D E ∧ ∀ p, p ∈ S → w.heap[p.1]? = some p.2 ∧ ¬ K p.1 ∧ ¬ M p.1 ∧ W.heap.size ≤ p.1

section
variable {W w w' : World} {q u : Nat} {K : Nat → Prop} {D E D2 E2 : Dv} {S S' : List (Nat × Obj)}
theorem PL.less (h : PL W w q K u D E S) (hs : ∀ p, p ∈ S' → p ∈ S) : PL W w q K u D E S' := by
  obtain ⟨M, t, b⟩ := h
  exact ⟨M, t, fun p hp => b p (hs p hp)⟩
theorem PL.nob (h : PL W w q K u D E S) (f : Fr Nob w w') : PL W w' q K u D E S := by
  obtain ⟨M, t, b⟩ := h
  exact ⟨M, t.nob f, fun p hp => ⟨f.heap (b p hp).1 fun h => h, (b p hp).2⟩⟩
theorem PL.more (h : PL W w q K u D E S) (f : Fr Nob w w') {B : Nat} {o : Obj} (hB : w.heap.size ≤ B) (ho : w'.heap[B]? = some o) : PL W w' q K u D E ((B, o) :: S) := by
  obtain ⟨M, t, b⟩ := h
  have hW : W.heap.size ≤ w.heap.size := t.dl.fr.size
  refine ⟨M, t.nob f, fun p hp => ?_⟩
  rcases List.mem_cons.1 hp with rfl | hp
  · exact ⟨ho, fun hk => by
      have := t.dl.klt _ hk
      have : B < w.heap.size := this
      omega, fun hm => by
      have := t.rf.lt _ hm
      have : B < w.heap.size := this
      omega, Nat.le_trans hW hB⟩
  · exact ⟨f.heap (b p hp).1 fun h => h, (b p hp).2⟩
theorem PL.fr (h : PL W w q K u D E S) : Fr Nob W w := by
  obtain ⟨M, t, _⟩ := h
  exact t.dl.fr
theorem PL.at_ (h : PL W w q K u D E S) {B : Nat} {o : Obj} (hp : (B, o) ∈ S) : w.heap[B]? = some o := by
  obtain ⟨M, t, b⟩ := h
  exact (b _ hp).1
/-- A block of ours turns. -/
theorem PL.turn (h : PL W w q K u D E S) {B : Nat} {c : Array Value} {t : TypeId} {o' : Obj} (hp : (B, Obj.cells c t (0, 0)) ∈ S) (h1 : t ≠ 115) (h2 : t ≠ 5) (f : Fr (One B) w w') (ho : w'.heap[B]? = some o') (hs : ∀ p, p ∈ S' → p = (B, o') ∨ (p ∈ S ∧ p.1 ≠ B)) : PL W w' q K u D E S' := by
  obtain ⟨M, tw, b⟩ := h
  obtain ⟨g1, g2, g3, g4⟩ := b _ hp
  have fw : Fr Nob W w' := tw.dl.fr.trans f fun k hk e => by
    have e : k = B := e
    have : W.heap.size ≤ B := g4
    omega
  have nb : NoPg w B := NoPg.of g1 (fun c f e => by injection e with _ e2; exact h1 e2) (fun c f e => by injection e with _ e2; exact h2 e2)
  have d := (tw.dl.avoid (T := One B) fun k hk => by
    have hk : k = B := hk
    rw [hk]
    exact nb).keep f fw fun k hk _ => ⟨.inr hk, fun hkk => by
    have hk : k = B := hk
    rw [hk] at hkk
    exact g2 hkk⟩
  have mB : ∀ k, M k → ¬ One B k := fun k hm e => by
    have e : k = B := e
    rw [e] at hm
    exact g3 hm
  refine ⟨M, ⟨d.less fun k h => .inl h, tw.rf.keep f mB, tw.ap, tw.low⟩, fun p hp => ?_⟩
  rcases hs p hp with rfl | ⟨hp, hne⟩
  · exact ⟨ho, g2, g3, g4⟩
  · obtain ⟨q1, q2⟩ := b p hp
    exact ⟨f.heap q1 fun e => hne e, q2⟩
theorem PL.dev (h : PL W w q K u D E S) {F : Ending → World → Prop} {f : FuncId} {a : Array Value} (g : ∀ N, DL W w q K N D → Calls Try.prog f a w fun e w' => F e w' ∧ DL W w' q K N D2 ∧ Fr K w w') : Calls Try.prog f a w fun e w' => F e w' ∧ PL W w' q K u D2 E S := by
  obtain ⟨M, t, b⟩ := h
  refine (g M t.dl).mono ?_
  rintro e w' ⟨h1, d, f⟩
  exact ⟨h1, M, t.dev d f, fun p hp => ⟨f.heap (b p hp).1 (b p hp).2.1, (b p hp).2⟩⟩
theorem PL.rf (h : PL W w q K u D E S) {F : Ending → World → Prop} {f : FuncId} {a : Array Value} (g : ∀ M, (∀ k, M k → W.heap.size ≤ k) → RefAt w u M E → Calls Try.prog f a w fun e w' => F e w' ∧ RfTo w u M w' E2) : Calls Try.prog f a w fun e w' => F e w' ∧ PL W w' q K u D E2 S := by
  obtain ⟨M, t, b⟩ := h
  refine (g M t.low t.rf).mono ?_
  rintro e w' ⟨h1, tt⟩
  obtain ⟨M', t', f, hs⟩ := t.ref' tt
  refine ⟨h1, M', t', fun p hp => ?_⟩
  obtain ⟨q1, q2, q3, q4⟩ := b p hp
  refine ⟨f.heap q1 q3, q2, fun hm => ?_, q4⟩
  rcases hs _ hm with h | h
  · exact q3 h
  · have := lt_of_block q1
    omega
theorem PL.alike (h : PL W w q K u D D S) : Calls Try.prog 60 #[.pointer (some ⟨q, 0, none⟩), .pointer (some ⟨u, 0, none⟩)] w fun e w' => e = .returned (.bool true) ∧ ∃ D', PL W w' q K u D' D' S ∧ D'.pg = D.pg ∧ D'.off = D.off := by
  obtain ⟨M, t, b⟩ := h
  refine (alike5_eq t).mono ?_
  rintro e w' ⟨h1, M', D', al⟩
  refine ⟨h1, D', ⟨M', al.two, fun p hp => ?_⟩, al.pg, al.off⟩
  obtain ⟨q1, q2, q3, q4⟩ := b p hp
  refine ⟨al.fr.heap q1 fun e => e.elim q2 q3, q2, fun hm => ?_, q4⟩
  rcases al.mo _ hm with h | h
  · exact q3 h
  · have := lt_of_block q1
    omega
theorem PL.pglen (h : PL W w q K u D E S) : ∀ i, i < D.pg.length → (pgB (D.now i)).length ≤ 384 := by
  obtain ⟨M, t, _⟩ := h
  exact fun i hi => t.dl.pg_len5 hi
end

/-- What Store answers and leaves. -/
def stRes (D : Dv) (b : Blk) : Blk × Int × Dv :=
  if seqOf D = 18446744073709551615 then (Blk.zero, 9, reads D 2)
  else (stB D b ((reads D 2).spend.off) ((stW D b).spend.off), stE ((reads D 2).spend.off) ((stW D b).spend.off), stD D b ((reads D 2).spend.off))
theorem stRes_len (D : Dv) (b : Blk) : (stRes D b).2.2.pg.length = D.pg.length := by
  unfold stRes
  split
  · exact congrArg List.length (reads_pg D 2)
  · show (stD D b _).pg.length = _
    unfold stD
    split
    · unfold stW
      rw [change_len, reads_pg]
    · unfold stF
      rw [flush_len]
      unfold stW
      rw [change_len, reads_pg]
theorem PL.store {W w : World} {q u : Nat} {K : Nat → Prop} {D E : Dv} {S : List (Nat × Obj)} (h : PL W w q K u D E S) (hl : 2 ≤ D.pg.length) (hl2 : D.pg.length ≤ 4096) (ho : D.off = false) (b : Blk) (hb : b.ok) :
    Calls Try.prog 26 #[.pointer (some ⟨q, 0, none⟩), .agg (blkV b)] w fun e w' => e = .returned (.tuple #[.agg (blkV (stRes D b).1), .int .i64 (stRes D b).2.1]) ∧ PL W w' q K u (stRes D b).2.2 E S := by
  unfold stRes
  by_cases hs : seqOf D = 18446744073709551615
  · simp only [if_pos hs]
    exact h.dev fun N d => store_worn d hl hl2 ho b hb hs
  · simp only [if_neg hs]
    exact h.dev fun N d => store_eq d hl hl2 ho b hb hs _ _ rfl rfl
theorem PL.rstore {W w : World} {q u : Nat} {K : Nat → Prop} {D E : Dv} {S : List (Nat × Obj)} (h : PL W w q K u D E S) (hl : 2 ≤ E.pg.length) (ho : E.off = false) (hp : ∀ i, i < E.pg.length → (pgB (E.now i)).length ≤ 384) (b : Blk) :
    Calls Try.prog 56 #[.pointer (some ⟨u, 0, none⟩), .agg (blkV b)] w fun e w' => e = .returned (.tuple #[.agg (blkV (stRes E b).1), .int .i64 (stRes E b).2.1]) ∧ PL W w' q K u D (stRes E b).2.2 S := by
  unfold stRes
  by_cases hs : seqOf E = 18446744073709551615
  · simp only [if_pos hs]
    exact h.rf fun M _ r => refStore_worn r hl ho hp b hs
  · simp only [if_neg hs]
    exact h.rf fun M _ r => refStore_eq r hl ho hp b hs _ _ rfl rfl

end Go.Proofs.Ytpdljgjofebgpaa
