/-
  dram: the contracts of Clear and New.
-/
import Derived.Test.YtpbbokpmlemboaaDrI
import Derived.Test.YtpbbokpmlemboaaDrH
namespace Go.Proofs.Ytpbbokpmlemboaa
open Go.RowKit Sl

/-- All chunks of xs have been let be gone. -/
structure Cleared (C : DC) (xs : List Int) (C' : DC) : Prop where
  ok : C'.Ok
  get : ∀ y, getM C'.M y = if y ∈ xs then none else getM C.M y
  sl : C'.S.length = C.S.length
  cls : ∀ j, (C'.S.getD j Pg.new).cls = (C.S.getD j Pg.new).cls
theorem Cleared.step {C C1 C2 : DC} {xs : List Int} {x : Int} {o : Ou} (h : Cleared C xs C1) (d : DropTo C1 x o C2) : Cleared C (xs ++ [x]) C2 := by
  have r := d.rid h.ok
  refine ⟨r.ok, fun y => ?_, by rw [r.sl, h.sl], fun j => by rw [r.S, free_cls, h.cls]⟩
  rw [r.M, getM_delM, h.get y]
  by_cases e : y = x
  · subst e
    simp
  · rw [if_neg e]
    by_cases e2 : y ∈ xs
    · rw [if_pos e2, if_pos (List.mem_append_left _ e2)]
    · rw [if_neg e2, if_neg (by simp [e, e2])]
theorem Cleared.end_ {C C' : DC} {xs : List Int} (h : Cleared C xs C') (hp : xs.Perm (keysM C.M)) : C'.M = [] := by
  have hn : ∀ y, getM C'.M y = none := fun y => by
    rw [h.get y]
    by_cases e : y ∈ xs
    · rw [if_pos e]
    · rw [if_neg e]
      cases hg : getM C.M y with
      | none => rfl
      | some o => exact absurd (hp.mem_iff.2 (getM_isSome.1 (by rw [hg]; rfl))) e
  apply List.eq_nil_iff_forall_not_mem.2
  intro ⟨y, o⟩ hy
  have := getM_none.1 (hn y) _ hy
  exact this rfl

theorem taken_key {C : DC} (h : C.Ok) {x : Int} (hx : x ∈ keysM C.M) (hn : C.S.length ≤ 150) : 0 ≤ x ∧ x ≤ 65536 ∧ ∃ o, getM C.M x = some o := by
  have h1 := getM_isSome.2 hx
  obtain ⟨o, ho⟩ := Option.isSome_iff_exists.1 h1
  have ht := h.taken ho
  exact ⟨(isTaken_parts ht).1, taken_lt ht (by omega), o, ho⟩

set_option maxHeartbeats 4000000 in
set_option maxRecDepth 100000 in
theorem clear_eq {w : World} {P : DP} {O : Nat → Nat → Prop} {C : DC} (h : DrIn w P O C) (ok : C.Ok) (hn : C.S.length ≤ 150) :
    Calls Try.prog 18 #[.pointer (some ⟨P.c, 0, none⟩)] w fun e w' => e = .returned (.tuple #[]) ∧ ∃ xs C', xs.Perm (keysM C.M) ∧ Cleared C xs C' ∧ DrTo w P O w' C' := by
  have few := ok.few
  obtain ⟨cK, cS⟩ := skeys_eq h.map (fun k hk => by have := taken_key ok hk hn; exact WalkArith.wf_i64 (by omega)) (by omega)
  have CK := Lib.hid cK
  have CS := Lib.hid cS
  have c8 := h.cells.2.2.2
  have OK := Lib.hid ok
  have H := Lib.hid h
  clear cK cS ok h
  go_enter Try.func18, Try.ntmps18
  go_wp2_with fail
  refine CK.out.mono ?_
  rintro e w' ⟨rfl, rfl⟩
  go_wp2_with fail
  refine CS.out.mono ?_
  rintro e w5 ⟨v, xs, rfl, hp, o5, f5⟩
  have HP := Lib.hid hp
  have O5 := Lib.hid o5
  have F5 := Lib.hid f5
  have H5 := Lib.hid (H.out.nob f5)
  obtain ⟨A, cap, rfl, hrd⟩ := RdI.of_row o5
  have RD := Lib.hid hrd
  have XL : xs.length ≤ 9600 := by
    have h1 := hp.length_eq
    have h2 : (keysM C.M).length = C.M.length := List.length_map ..
    omega
  have HNO := Lib.hid (hp.nodup_iff.2 OK.out.nd)
  have VO : Hid (∀ g, (Value.slice A xs.length cap).ownBlock = some g → ¬ UO O g ∧ g < w5.heap.size) := Lib.hid fun g hg => ⟨fun h => by have := H.out.ltU h; have := (o5.lt g hg).1; omega, (o5.lt g hg).2⟩
  clear hp o5 f5 hrd c8 CK CS
  go_wp2_with fail
  go_loopw [3, 11] (fun _ i wr => ∃ j : Nat, j ≤ xs.length ∧ i = .int .i64 j ∧ ∃ C1 O1, Hid (Cleared C (xs.take j) C1) ∧ Hid (DrIn wr P O1 C1) ∧ Hid (Fr (UO O) w5 wr) ∧ Hid (∀ k, UO O1 k → UO O k ∨ w5.heap.size ≤ k)) (fun _ i _ => xs.length - (Lib.intOf i).toNat)
  case atStart => exact ⟨0, by omega, rfl, C, O, Lib.hid ⟨OK.out, fun y => by simp, rfl, fun _ => rfl⟩, H5, Lib.hid (Fr.refl _ _), Lib.hid fun _ h => .inl h⟩
  case round =>
    obtain ⟨j, hj, rfl, C1, O1, K1, H1, F1, L1⟩ := hrel
    by_cases hjl : j < xs.length
    · have hjl2 : (j : Int) < (xs.length : Int) := by omega
      obtain ⟨g, rfl, hcl⟩ := RD.out (by omega)
      have cj := F1.out.cell (hcl j hjl) (VO.out g rfl).1
      have TS := Lib.hid (take_snoc hjl)
      have hmem : xs.getD j 0 ∈ xs := by rw [List.getD_eq_getElem?_getD, List.getElem?_eq_getElem hjl]; exact List.getElem_mem hjl
      have hnot : xs.getD j 0 ∉ xs.take j := fun hm => by
        have hnd := HNO.out
        rw [← List.take_append_drop j xs, List.nodup_append] at hnd
        refine hnd.2.2 _ hm _ ?_ rfl
        rw [List.getD_eq_getElem?_getD, List.getElem?_eq_getElem hjl]
        exact List.mem_drop_iff_getElem.2 ⟨0, by omega, by simp⟩
      generalize xs.getD j 0 = x at *
      obtain ⟨x0, x6, o, ho⟩ := taken_key OK.out (HP.out.mem_iff.1 hmem) hn
      have HO : Hid (getM C1.M x = some o) := Lib.hid (by rw [K1.out.get x, if_neg hnot, ho])
      have hs1 := K1.out.sl
      clear hcl hmem hnot ho
      go_wp2_with fail
      refine (drop_eq H1.out K1.out.ok HO.out (by omega)).mono ?_
      rintro e w6 ⟨rfl, C2, d, O2, h2, f2, l2⟩
      have K2 : Hid (Cleared C (xs.take (j + 1)) C2) := Lib.hid (by rw [TS.out]; exact K1.out.step d)
      have H2 := Lib.hid h2
      have F2 := Lib.hid (F1.out.trans f2 fun k hk h => (L1.out k h).elim id fun h => by omega)
      have L2 : Hid (∀ k, UO O2 k → UO O k ∨ w5.heap.size ≤ k) := Lib.hid fun k hk => (l2 k hk).elim (fun h => L1.out k h) fun h => Or.inr (Nat.le_trans F1.out.size h)
      clear h2 f2 l2 d H1 F1 L1 K1 cj
      go_wp2_with fail
      go_roundw
      case rel => exact ⟨j + 1, by omega, by go_num, C2, O2, K2, H2, F2, L2⟩
      case measure => simp [Lib.intOf]; omega
    · have hje : j = xs.length := by omega
      subst hje
      have K2 : Hid (Cleared C xs C1) := Lib.hid (by have := K1.out; rwa [List.take_length] at this)
      clear K1
      go_wp2_with fail
      go_end0
      exact ⟨rfl, xs, C1, HP.out, K2.out, O1, H1.out, F5.out.nob.trans F1.out fun k hk h => h, fun k hk => (L1.out k hk).elim .inl fun h => .inr (Nat.le_trans F5.out.size h)⟩
end Go.Proofs.Ytpbbokpmlemboaa
