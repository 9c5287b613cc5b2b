/-
  tomb: the journal in memory; Begin, Gone, Room, note.
-/
import Derived.Test.YtpdljgjofebgpaaTombA
import Derived.StillTailTactics
namespace Go.Proofs.Ytpdljgjofebgpaa
open Go.RowKit

abbrev ku : Nat → Value := fun n => .int .u64 (n : Int)
theorem nat_key : KeyOf (.int .u64) ku :=
  ⟨fun a b => by
    have := (int_key .u64).same (a : Int) (b : Int)
    rw [show decide (a = b) = decide ((a : Int) = (b : Int)) from decide_eq_decide.2 Int.natCast_inj.symm]
    exact this, fun a => (int_key .u64).bits (a : Int), fun P w t e a h => (int_key .u64).check P w t e (a : Int) h⟩
theorem ku_zero (w : World) : (zeroValue 27).run Try.prog w = .ok (ku 0) w := Try.zeroValue27 w

/-- The journal at j, its map at m, of the device at q. -/
structure JIs (w : World) (q j m : Nat) (J : Jn) : Prop where
  top : w.heap[j]? = some (.cells #[.pointer (some ⟨q, 0, none⟩), .int .i64 J.loss, .int .i64 J.first, .int .i64 J.pages, .int .u64 J.gen, .int .i64 J.used, .map (some m)] 136 (0, 0))
  map : MapIs ku ku w m J.M

theorem JIs.ne {w : World} {q j m : Nat} {J : Jn} (h : JIs w q j m J) : j ≠ m := fun e => by
  obtain ⟨es, cl, h1, _⟩ := h.map
  have h2 := h.top
  rw [e, h1] at h2
  cases h2
theorem JIs.keep {w w' : World} {q j m : Nat} {J : Jn} {T : Nat → Prop} (h : JIs w q j m J) (f : Fr T w w') (hj : ¬ T j) (hm : ¬ T m) : JIs w' q j m J := ⟨f.heap h.top hj, h.map.keep f hm⟩
theorem JIs.nob {w w' : World} {q j m : Nat} {J : Jn} (h : JIs w q j m J) (f : Fr Nob w w') : JIs w' q j m J := h.keep f (fun h => h) fun h => h
theorem JIs.cells {w : World} {q j m : Nat} {J : Jn} (h : JIs w q j m J) :
    w.cell? ⟨j, 0, none⟩ = some (.pointer (some ⟨q, 0, none⟩)) ∧ w.cell? ⟨j, 1, none⟩ = some (.int .i64 J.loss) ∧ w.cell? ⟨j, 2, none⟩ = some (.int .i64 J.first) ∧ w.cell? ⟨j, 3, none⟩ = some (.int .i64 J.pages) ∧
      w.cell? ⟨j, 4, none⟩ = some (.int .u64 J.gen) ∧ w.cell? ⟨j, 5, none⟩ = some (.int .i64 J.used) ∧ w.cell? ⟨j, 6, none⟩ = some (.map (some m)) ∧ ∀ i, w.frozen? ⟨j, i, none⟩ = false :=
  ⟨cell_of_row w j 0 _ _ (0, 0) h.top, cell_of_row w j 1 _ _ (0, 0) h.top, cell_of_row w j 2 _ _ (0, 0) h.top, cell_of_row w j 3 _ _ (0, 0) h.top, cell_of_row w j 4 _ _ (0, 0) h.top, cell_of_row w j 5 _ _ (0, 0) h.top, cell_of_row w j 6 _ _ (0, 0) h.top, fun i => frozen_of_row w j i _ _ h.top⟩

theorem gone_eq {w : World} {q j m : Nat} {J : Jn} (h : JIs w q j m J) (k v : Nat) :
    Calls Try.prog 54 #[.pointer (some ⟨j, 0, none⟩), .int .u64 k, .int .u64 v] w fun e w' => e = .returned (.bool (goneB J.M k v)) ∧ w = w' := by
  have H := Lib.hid h
  have c6 := h.cells.2.2.2.2.2.2.1
  clear h
  cases hg : getM J.M k with
  | none =>
    have HG := Lib.hid hg
    have hb : Hid (goneB J.M k v = false) := Lib.hid (by unfold goneB; rw [hg])
    clear hg
    go_enter Try.func54, Try.ntmps54
    go_wp2_with (at_lookup; (with_reducible refine wpList_lookupM rfl _ _ 134 rfl nat_key (val := ku) Try.underlying134 Try.underlying27 (ku_zero _) H.out.map rfl k rfl ?_); simp only [HG.out, Option.isSome_none, Option.getD_none, if_true])
    go_ret
    exact ⟨by rw [hb.out]; rfl, rfl⟩
  | some u =>
    have HG := Lib.hid hg
    have hb : Hid (goneB J.M k v = decide (v ≤ u)) := Lib.hid (by unfold goneB; rw [hg])
    clear hg
    by_cases hv : v ≤ u
    · have hv2 : (v : Int) ≤ (u : Int) := by omega
      have hb2 := Lib.hid (hb.out.trans (decide_eq_true hv))
      go_enter Try.func54, Try.ntmps54
      go_wp2_with (at_lookup; (with_reducible refine wpList_lookupM rfl _ _ 134 rfl nat_key (val := ku) Try.underlying134 Try.underlying27 (ku_zero _) H.out.map rfl k rfl ?_); simp only [HG.out, Option.isSome_some, Option.getD_some, if_true])
      go_ret
      exact ⟨by rw [hb2.out]; rfl, rfl⟩
    · have hv2 : ¬ (v : Int) ≤ (u : Int) := by omega
      have hb2 := Lib.hid (hb.out.trans (decide_eq_false hv))
      go_enter Try.func54, Try.ntmps54
      go_wp2_with (at_lookup; (with_reducible refine wpList_lookupM rfl _ _ 134 rfl nat_key (val := ku) Try.underlying134 Try.underlying27 (ku_zero _) H.out.map rfl k rfl ?_); simp only [HG.out, Option.isSome_some, Option.getD_some, if_true])
      go_ret
      exact ⟨by rw [hb2.out]; rfl, rfl⟩

theorem room_eq {w : World} {q j m : Nat} {J : Jn} (h : JIs w q j m J) (hu : J.used ≤ J.pages) (hp : J.pages ≤ 5000) (r : Int) (hr : r = (J.pages : Int) - J.used) :
    Calls Try.prog 51 #[.pointer (some ⟨j, 0, none⟩)] w fun e w' => e = .returned (.int .i64 r) ∧ Fr Nob w w' := by
  have c3 := h.cells.2.2.2.1
  have c5 := h.cells.2.2.2.2.2.1
  have HR := Lib.hid hr
  have hw : IntKind.i64.wrap ((J.pages : Int) - J.used) = (J.pages : Int) - J.used := by rw [IntKind.wrap_i64]; omega
  clear h hr
  go_enter Try.func51, Try.ntmps51
  go_wp2_with fail
  go_quiet (fail)
  go_wp2_with fail
  go_ret
  exact ⟨by rw [HR.out]; rfl, (Fr.refl Nob w).drewN _⟩

theorem begin_any {w : World} {q j : Nat} {J : Jn} {a4 a5 a6 : Value} (h : w.heap[j]? = some (.cells #[.pointer (some ⟨q, 0, none⟩), .int .i64 J.loss, .int .i64 J.first, .int .i64 J.pages, a4, a5, a6] 136 (0, 0))) (g : Nat) :
    Calls Try.prog 53 #[.pointer (some ⟨j, 0, none⟩), .int .u64 g] w fun e w' => e = .returned (.tuple #[]) ∧ JIs w' q j w.heap.size { J with gen := g, used := 0, M := [] } ∧ Fr (One j) w w' := by
  have fa : Fr Nob w (w.alloc (.map #[] 0)) := (Fr.refl Nob w).alloc _
  have t := fa.heap h fun h => h
  have TT := Lib.hid t
  have HL := Lib.hid (lt_of_block h)
  have z := fun i => frozen_of_row _ j i _ _ t
  have z4 := z 4
  have z5 := z 5
  have z6 := z 6
  have c4 := cell_of_row _ j 4 _ _ (0, 0) t
  have c5 := cell_of_row _ j 5 _ _ (0, 0) t
  have c6 := cell_of_row _ j 6 _ _ (0, 0) t
  have MM := Lib.hid (MapIs.made (key := ku) (val := ku) w)
  clear h t z fa
  go_enter Try.func53, Try.ntmps53
  go_wp2_with (with_reducible refine wpList_makeM (o := ⟨some 8, .makeMap 134 none, _, _, _, _⟩) rfl rfl ?_)
  go_end0
  have f : Fr (One j) w (w.alloc (.map #[] 0)) := (Fr.refl _ w).alloc _
  have s1 : Fr (One j) (w.alloc (.map #[] 0)) ((((w.alloc (.map #[] 0)).setCell ⟨j, 4, none⟩ (.int .u64 g)).setCell ⟨j, 5, none⟩ (.int .i64 0)).setCell ⟨j, 6, none⟩ (.map (some w.heap.size))) := (((Fr.refl (One j) _).set1 _).set1 _).set1 _
  refine ⟨rfl, ⟨?_, MM.out.keep s1 fun h => ?_⟩, f.trans' s1⟩
  · have h1 := heap_setCell_same _ j 4 _ _ (.int .u64 g) TT.out
    have h2 := heap_setCell_same _ j 5 _ _ (.int .i64 0) h1
    have h3 := heap_setCell_same _ j 6 _ _ (.map (some w.heap.size)) h2
    rw [h3]
    rfl
  · have h : w.heap.size = j := h
    have := HL.out
    omega

theorem begin_eq {w : World} {q j m : Nat} {J : Jn} (h : JIs w q j m J) (g : Nat) :
    Calls Try.prog 53 #[.pointer (some ⟨j, 0, none⟩), .int .u64 g] w fun e w' => e = .returned (.tuple #[]) ∧ JIs w' q j w.heap.size { J with gen := g, used := 0, M := [] } ∧ Fr (One j) w w' := begin_any h.top g

theorem JIs.use {w : World} {q j m : Nat} {J : Jn} (h : JIs w q j m J) (u : Nat) : JIs (w.setCell ⟨j, 5, none⟩ (.int .i64 (u : Int))) q j m { J with used := u } := by
  refine ⟨?_, h.map.keep ((Fr.refl (One j) w).set1 _) fun e => h.ne e.symm⟩
  rw [heap_setCell_same w j 5 _ _ (.int .i64 (u : Int)) h.top]
  rfl

set_option maxRecDepth 100000 in
set_option maxHeartbeats 1000000 in
theorem note_eq {w : World} {q j m : Nat} {J : Jn} {v : Value} {l : List Mk} (h : JIs w q j m J) (hr : RdM w v l) (hv : ∀ k, v.ownBlock = some k → k ≠ m) (hl : l.length ≤ 100000) :
    Calls Try.prog 86 #[.pointer (some ⟨j, 0, none⟩), v] w fun e w' => e = .returned (.tuple #[]) ∧ JIs w' q j m { J with M := noteL J.M l } ∧ Fr (One m) w w' := by
  have H0 : Hid (JIs w q j m { J with M := noteL J.M (l.take 0) }) := Lib.hid h
  have HV := Lib.hid hv
  have HR := Lib.hid hr
  obtain ⟨a, cap, rfl, _⟩ := hr
  clear h hv
  go_enter Try.func86, Try.ntmps86
  go_wp2_with fail
  go_loopw [10] (fun i wr => ∃ k : Nat, k ≤ l.length ∧ i = .int .i64 k ∧ Hid (JIs wr q j m { J with M := noteL J.M (l.take k) }) ∧ Hid (Fr (One m) w wr)) (fun i _ => l.length - (intOf i).toNat)
  case atStart => exact ⟨0, Nat.zero_le _, rfl, H0, Lib.hid (Fr.refl _ _)⟩
  case round =>
    clear H0
    obtain ⟨k, hk, rfl, jn, fr⟩ := hrel
    by_cases hlt : k < l.length
    · have hki : (k : Int) < (l.length : Int) := by omega
      obtain ⟨a', cap', he, hc⟩ := HR.out.keep fr.out fun k hk h => HV.out k hk h
      simp only [Value.slice.injEq, true_and] at he
      obtain ⟨rfl, rfl⟩ := he
      obtain ⟨g, o, rfl, hcell⟩ := hc (by omega)
      obtain ⟨c1, c2⟩ := hcell k hlt
      have htk : l.take (k + 1) = l.take k ++ [l.getD k (0, 0)] := by
        rw [List.take_add_one, List.getElem?_eq_getElem hlt, List.getD_eq_getElem?_getD, List.getElem?_eq_getElem hlt]
        rfl
      have HN : Hid (noteL J.M (l.take (k + 1)) = note1 (noteL J.M (l.take k)) (l.getD k (0, 0))) := Lib.hid (by rw [htk, noteL_snoc])
      generalize l.getD k (0, 0) = mk at *
      generalize noteL J.M (l.take k) = M at *
      obtain ⟨mk1, mk2⟩ := mk
      clear hcell hc htk
      have fa : Fr Nob wr (wr.alloc (.cells #[.int .u64 (mk1 : Int), .int .u64 (mk2 : Int)] 80)) := (Fr.refl Nob wr).alloc _
      have ja := jn.out.nob fa
      have hb := heap_alloc_new wr (.cells #[.int .u64 (mk1 : Int), .int .u64 (mk2 : Int)] 80)
      have d0 := cell_of_row _ wr.heap.size 0 _ _ (0, 0) hb
      have d1 := cell_of_row _ wr.heap.size 1 _ _ (0, 0) hb
      have d6 := ja.cells.2.2.2.2.2.2.1
      have FA := Lib.hid fa
      have JA := Lib.hid ja
      clear hb fa ja
      have hlook : ∀ n, (Instr.lookup 134 (.map (some m)) (.int .u64 (mk1 : Int)) true).run Try.prog ((wr.alloc (.cells #[.int .u64 (mk1 : Int), .int .u64 (mk2 : Int)] 80)).drewN n) = .ok (.tuple #[ku ((getM M mk1).getD 0), .bool (getM M mk1).isSome]) ((wr.alloc (.cells #[.int .u64 (mk1 : Int), .int .u64 (mk2 : Int)] 80)).drewN n) := fun n =>
        run_lookupM nat_key Try.underlying134 Try.underlying27 (z := 0) (ku_zero _) (JA.out.map.keep (S := Nob) ((Fr.refl _ _).drewN n) fun h => h) mk1 true
      cases hg : getM M mk1 with
      | none =>
        have HN1 : Hid (note1 M (mk1, mk2) = setM M mk1 mk2) := Lib.hid (by unfold note1; simp only [hg])
        rw [hg] at hlook
        simp only [Option.isSome_none, Option.getD_none] at hlook
        clear hg
        go_wp2_with fail
        go_quiet (fail)
        obtain ⟨Wd, hWd⟩ : ∃ Wd, Wd = (wr.alloc (.cells #[.int .u64 (mk1 : Int), .int .u64 (mk2 : Int)] 80)).drewN nq := ⟨_, rfl⟩
        rw [← hWd]
        have fd : Fr Nob wr Wd := by rw [hWd]; exact FA.out.drewN nq
        have e0 : Wd.cell? ⟨wr.heap.size, 0, none⟩ = some (.int .u64 (mk1 : Int)) := by rw [hWd]; exact d0
        have e1 : Wd.cell? ⟨wr.heap.size, 1, none⟩ = some (.int .u64 (mk2 : Int)) := by rw [hWd]; exact d1
        have e6 : Wd.cell? ⟨j, 6, none⟩ = some (.map (some m)) := by rw [hWd]; exact d6
        have FD := Lib.hid fd
        have JD : Hid (JIs Wd.drew q j m { J with M := M }) := Lib.hid (jn.out.nob fd.drew)
        clear hWd fd d0 d1 d6 hlook
        go_wp2_with fail
        go_still_tail 8, (by kernel_rfl)
        change wpList _ _ _ _ _ Wd.drew
        go_wp2_with (at_mapUpdate; (with_reducible refine wpList_updateM rfl _ _ _ 134 rfl nat_key (val := ku) Try.underlying134 Try.underlying27 JD.out.map rfl mk1 rfl mk2 rfl ?_); intro w2 m2 f2)
        go_roundw
        case rel => exact ⟨k + 1, by omega, by go_num, Lib.hid ⟨f2.heap JD.out.top JD.out.ne, by rw [HN.out, HN1.out]; exact m2⟩, Lib.hid ((fr.out.trans' FD.out.nob).drew.trans' f2)⟩
        case measure => simp [intOf]; omega
      | some u =>
        rw [hg] at hlook
        simp only [Option.isSome_some, Option.getD_some] at hlook
        by_cases hlt2 : u < mk2
        · have HN1 : Hid (note1 M (mk1, mk2) = setM M mk1 mk2) := Lib.hid (by unfold note1; simp only [hg]; rw [if_pos hlt2])
          have hlti : (u : Int) < (mk2 : Int) := by omega
          clear hg
          go_wp2_with fail
          go_quiet (fail)
          obtain ⟨Wd, hWd⟩ : ∃ Wd, Wd = (wr.alloc (.cells #[.int .u64 (mk1 : Int), .int .u64 (mk2 : Int)] 80)).drewN nq := ⟨_, rfl⟩
          rw [← hWd]
          have fd : Fr Nob wr Wd := by rw [hWd]; exact FA.out.drewN nq
          have e0 : Wd.cell? ⟨wr.heap.size, 0, none⟩ = some (.int .u64 (mk1 : Int)) := by rw [hWd]; exact d0
          have e1 : Wd.cell? ⟨wr.heap.size, 1, none⟩ = some (.int .u64 (mk2 : Int)) := by rw [hWd]; exact d1
          have e6 : Wd.cell? ⟨j, 6, none⟩ = some (.map (some m)) := by rw [hWd]; exact d6
          have FD := Lib.hid fd
          have JD : Hid (JIs Wd.drew q j m { J with M := M }) := Lib.hid (jn.out.nob fd.drew)
          clear hWd fd d0 d1 d6 hlook
          go_wp2_with fail
          go_still_tail 8, (by kernel_rfl)
          change wpList _ _ _ _ _ Wd.drew
          go_wp2_with (at_mapUpdate; (with_reducible refine wpList_updateM rfl _ _ _ 134 rfl nat_key (val := ku) Try.underlying134 Try.underlying27 JD.out.map rfl mk1 rfl mk2 rfl ?_); intro w2 m2 f2)
          go_roundw
          case rel => exact ⟨k + 1, by omega, by go_num, Lib.hid ⟨f2.heap JD.out.top JD.out.ne, by rw [HN.out, HN1.out]; exact m2⟩, Lib.hid ((fr.out.trans' FD.out.nob).drew.trans' f2)⟩
          case measure => simp [intOf]; omega
        · have HN1 : Hid (note1 M (mk1, mk2) = M) := Lib.hid (by unfold note1; simp only [hg]; rw [if_neg hlt2])
          have hlti : ¬ (u : Int) < (mk2 : Int) := by omega
          clear hg
          go_wp2_with fail
          go_quiet (fail)
          go_wp2_with fail
          go_roundw
          case rel => exact ⟨k + 1, by omega, by go_num, Lib.hid (by rw [HN.out, HN1.out]; exact JA.out.nob ((Fr.refl Nob _).drewN _)), Lib.hid (fr.out.trans' (FA.out.nob.drewN _))⟩
          case measure => simp [intOf]; omega
    · have : k = l.length := by omega
      subst this
      go_wp2_with fail
      go_end0
      have := jn.out
      rw [List.take_length] at this
      exact ⟨rfl, this, fr.out⟩

end Go.Proofs.Ytpdljgjofebgpaa
