/-
  'alike': a device and the document's own, told by the same plain device, read the same.
-/
import Derived.Test.YtpdljgjofebgpaaRefN
import Derived.BigQuiet
import Derived.Deep.QuietTactic
namespace Go.Proofs.Ytpdljgjofebgpaa
open Go.RowKit

theorem txt_pgB (p : Pg) : txtP p = pgB p := by cases p <;> rfl
theorem rdE_pgE (p : Pg) : rdE p = pgE p := by cases p <;> rfl

/-- What alike leaves while it goes on. -/
structure Alk (W w : World) (q : Nat) (K : Nat → Prop) (u : Nat) (M : Nat → Prop) (D : Dv) (w' : World) (M' : Nat → Prop) (D' : Dv) : Prop where
  two : Two W w' q K u M' D' D'
  fr : Fr (fun k => K k ∨ M k) w w'
  mo : ∀ k, M' k → M k ∨ w.heap.size ≤ k
  pg : D'.pg = D.pg
  off : D'.off = D.off

theorem Alk.dev {W w w1 w2 : World} {q u : Nat} {K M M1 : Nat → Prop} {D D1 : Dv} (h : Alk W w q K u M D w1 M1 D1) (f : Fr K w1 w2) : Fr (fun k => K k ∨ M k) w w2 := h.fr.trans f fun _ _ hk => .inl hk
theorem Two.ref' {W w w' : World} {q u : Nat} {K M : Nat → Prop} {D E E2 : Dv} (h : Two W w q K u M D E) (t : RfTo w u M w' E2) : ∃ M', Two W w' q K u M' D E2 ∧ Fr M w w' ∧ ∀ k, M' k → M k ∨ w.heap.size ≤ k := by
  obtain ⟨M', r, f, hs⟩ := t
  have hW := h.dl.fr.size
  refine ⟨M', ⟨h.dl.grow' f (h.dl.fr.trans f fun i hi hm => absurd (h.low i hm) (by omega)) (fun k hk _ => ⟨hk, h.ap k hk⟩) (fun k hk => (hs k hk).imp id fun h => ⟨h, r.lt k hk⟩), r, fun k hk hkk => ?_, fun k hk => ?_⟩, f, hs⟩
  · rcases hs k hk with h1 | h1
    · exact h.ap k h1 hkk
    · have := h.dl.klt k hkk
      omega
  · rcases hs k hk with h1 | h1
    · exact h.low k h1
    · omega

set_option maxRecDepth 100000 in
set_option maxHeartbeats 4000000 in
theorem alike_eq {W w : World} {q u : Nat} {K M : Nat → Prop} {D : Dv} (h : Two W w q K u M D D) :
    Calls Try.prog 47 #[.pointer (some ⟨q, 0, none⟩), .pointer (some ⟨u, 0, none⟩)] w fun e w' => e = .returned (.bool true) ∧ Fr (fun k => K k ∨ M k) w w' := by
  have A0 : Hid (Alk W w q K u M D w M D) := Lib.hid ⟨h, Fr.refl _ _, fun _ h => .inl h, rfl, rfl⟩
  clear h
  obtain ⟨n, hn⟩ : ∃ n, n = D.pg.length := ⟨_, rfl⟩
  have HN := Lib.hid hn
  have hmost : n ≤ 4096 := by
    obtain ⟨gl, cl, gn, cn, gw, cw, s, _⟩ := A0.out.two.rf
    rw [hn]
    exact s.most
  clear hn
  go_enter Try.func47, Try.ntmps47
  go_wp2_with fail
  go_loopw [5] (fun i wr => ∃ (k : Nat) (M' : Nat → Prop) (D' : Dv), k ≤ n ∧ i = .int .i64 k ∧ Hid (Alk W w q K u M D wr M' D')) (fun i _ => n - (intOf i).toNat)
  case atStart => exact ⟨0, _, _, Nat.zero_le _, rfl, A0⟩
  case round =>
    clear A0
    obtain ⟨k, M1, D1, hk, rfl, A1⟩ := hrel
    have HL : Hid (D1.pg.length = n) := Lib.hid (by rw [HN.out, A1.out.pg])
    have PG := Lib.hid A1.out.two.dl.pages
    rw [HL.out] at PG
    go_wp2_with fail
    refine PG.out.mono ?_
    rintro e _ ⟨rfl, rfl⟩
    clear PG
    by_cases hlt : k < n
    · have hki : (k : Int) < (n : Int) := by omega
      cases ho : D1.off with
      | true =>
        have RD := Lib.hid (A1.out.two.dl.read_off (i := k) (by rw [HL.out]; exact hlt) ho)
        have RF := Lib.hid (refRead_off A1.out.two.rf (i := k) (by rw [HL.out]; exact hlt) ho)
        have CV : (convert 34 9 (.slice none 0 0)).run Try.prog wr = .ok (.string ⟨#[]⟩) wr := (RdB.nil wr 0).text _ _ _ Try.underlying34 Try.underlying5 Try.underlying9
        go_wp2_with fail
        refine RD.out.mono ?_
        rintro e _ ⟨rfl, rfl⟩
        go_wp2_with fail
        refine RF.out.mono ?_
        rintro e _ ⟨rfl, rfl⟩
        go_wp2_with fail
        go_roundw
        case rel => exact ⟨k + 1, M1, D1, by omega, by go_num, A1⟩
        case measure => simp [intOf]; omega
      | false =>
        obtain ⟨p, hp⟩ : ∃ p, p = D1.now k := ⟨_, rfl⟩
        have RD := Lib.hid (A1.out.two.dl.read_any (i := k) (by rw [HL.out]; exact hlt) ho p hp.symm)
        have HO := Lib.hid ho
        have HP := Lib.hid hp
        clear ho hp
        go_wp2_with fail
        refine RD.out.mono ?_
        rintro e w2 ⟨v, rfl, rc, d2, f2, hv⟩
        have T2 := Lib.hid (A1.out.two.dev d2 f2)
        have F2 := Lib.hid f2
        have RC := Lib.hid rc
        have RF := Lib.hid (refRead_eq T2.out.rf (i := k) (by rw [HL.out]; exact hlt) HO.out)
        rw [← HP.out, txt_pgB, rdE_pgE] at RF
        have HV : Hid (∀ k, v.ownBlock = some k → wr.heap.size ≤ k) := Lib.hid hv
        clear rc d2 f2 hv RD
        go_wp2_with fail
        refine RF.out.mono ?_
        rintro e w3 ⟨rfl, t⟩
        have T3 := Lib.hid (T2.out.ref' t)
        obtain ⟨M3, T3, F3, hs3⟩ := T3.out
        have A3 : Hid (Alk W w q K u M D w3 M3 D1.read) := Lib.hid ⟨T3, (A1.out.dev F2.out).trans F3 fun i hi hm => by
            rcases A1.out.mo i hm with h | h
            · exact .inr h
            · omega, fun k hk => by
            rcases hs3 k hk with h | h
            · exact A1.out.mo k h
            · have := (A1.out.dev F2.out).size
              omega, A1.out.pg, A1.out.off⟩
        have RB : RdB w3 v (pgB p) := RC.out.1.keep F3 fun k hk hm => by
          have := HV.out k hk
          have := A1.out.two.rf.lt k hm
          omega
        have CV : (convert 34 9 v).run Try.prog w3 = .ok (.string ⟨(pgB p).toArray⟩) w3 := RB.text _ _ _ Try.underlying34 Try.underlying5 Try.underlying9
        clear RB T2 T3 F3 hs3 RF F2 RC HV t
        go_wp2_with fail
        go_roundw
        case rel => exact ⟨k + 1, M3, D1.read, by omega, by go_num, A3⟩
        case measure => simp [intOf]; omega
    · have hki : ¬ (k : Int) < (n : Int) := by omega
      have LO := Lib.hid fun (m : Nat) => (A1.out.two.dl.nob ((Fr.refl Nob wr).drewN m)).losses
      have PO := Lib.hid fun (m : Nat) => (A1.out.two.dl.nob ((Fr.refl Nob wr).drewN m)).power
      obtain ⟨gl, cl, gn, cn, gw, cw, s, hM⟩ := A1.out.two.rf
      obtain ⟨_, _, _, c3, _, c5, _⟩ := s.cells
      clear s hM
      generalize D1.loss = lo at *
      generalize D1.off = of at *
      go_wp2_with fail
      go_quiet ((first
        | (go_at_call 39; exact quietL (LO.out _))
        | (go_at_call 38; exact quietL (PO.out _))))
      go_wp2_with fail
      go_ret
      refine ⟨?_, A1.out.fr.drewN _⟩
      cases of <;> rfl

end Go.Proofs.Ytpdljgjofebgpaa
