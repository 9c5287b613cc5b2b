/-
  flash: Read.
-/
import Derived.Test.YtpdljgjofebgpaaFlashC
namespace Go.Proofs.Ytpdljgjofebgpaa
open Go.RowKit

theorem clone_bytes {w : World} {r : Nat} {bs : List UInt8} (h : w.heap[r]? = some (.cells (bytesV bs).toArray 5 (0, 0))) (hn : bs.length = 384) :
    Calls Try.prog 71 #[.slice (some ⟨r, 0, none⟩) 384 384] w fun e w' => ∃ v, e = .returned v ∧ w'.ownsRow w.heap.size 5 1 v bs.length (bytesV bs) ∧ Fr Nob w w' := by
  have hq : ∀ (w : World) (a : Option Addr) (n c n' c' : Nat), (binOp .eql 34 (.slice a n c) (.slice none n' c')).run Try.prog w = .ok (.bool a.isNone) w := fun w a n c n' c' => Lib.run_eql_slice_nil w _ _ a n c n' c' Try.underlying34
  have H := Lib.hid h
  have HN := Lib.hid hn
  have own := Lib.hid (World.ownsRow_made w #[] 0 (Nat.le_refl _) (Nat.zero_le _) rfl : (w.alloc (.cells #[] 5)).ownsRow w.heap.size 5 1 (.slice (some ⟨w.heap.size, 0, none⟩) 0 0) 0 [])
  have hnews : ∀ j u, (bytesV bs)[j]? = some u → (w.alloc (.cells #[] 5)).cell? ((⟨r, 0, none⟩ : Addr).add j) = some u := by
    intro j u hu
    obtain ⟨hj, rfl⟩ := bytesV_some hu
    have hadd : (⟨r, 0, none⟩ : Addr).add j = ⟨r, j, none⟩ := by unfold Addr.add; split <;> simp_all
    rw [hadd]
    exact bytesV_cell (((Fr.refl Nob w).alloc _).heap H.out fun h => h) hj
  have NEWS := Lib.hid hnews
  clear h hn hnews
  go_enter Try.func71, Try.ntmps71
  go_wp2_with (with_reducible refine wpList_app rfl (.tmp 5) (.tmp 6) 34 rfl 5 #[.int .u8 0] 1 1 Try.underlying34 u8_info rfl (by omega) w.heap.size (.slice (some ⟨w.heap.size, 0, none⟩) 0 0) 0 [] rfl own.out ⟨r, 0, none⟩ 384 384 (bytesV bs) rfl (by rw [bytesV_len, HN.out]) NEWS.out (bytesV_one bs) (by omega) (by omega) (by simp) ?_)
  intro v w3 o3 f3 h3
  go_wp2_with fail
  go_ret
  refine ⟨v, rfl, ?_, ?_⟩
  · rw [HN.out]; exact o3.out
  · exact ((Fr.refl Nob w).alloc (.cells #[] 5)).trans f3.out fun k hk e => by
      simp [Value.ownBlock] at e
      omega

theorem read_bad {w : World} {q : Nat} {K P : Nat → Prop} {D : Dv} (s : DevAt w q K P D) {x : Int} (hx : x < 0 ∨ (D.pg.length : Int) ≤ x) :
    Calls Try.prog 32 #[.pointer (some ⟨q, 0, none⟩), .int .i64 x] w fun e w' => e = .returned (.tuple #[.slice none 0 0, .int .i64 1]) ∧ w = w' := by
  have hc := Lib.hid (has_no s hx)
  clear hx s
  go_enter Try.func32, Try.ntmps32
  go_wp2_with fail
  refine hc.out.mono ?_
  rintro e w' ⟨rfl, rfl⟩
  go_wp2_with fail
  go_ret2
  exact ⟨rfl, rfl⟩

theorem read_off {w : World} {q : Nat} {K P : Nat → Prop} {D : Dv} (s : DevAt w q K P D) {i : Nat} (hi : i < D.pg.length) (ho : D.off = true) :
    Calls Try.prog 32 #[.pointer (some ⟨q, 0, none⟩), .int .i64 i] w fun e w' => e = .returned (.tuple #[.slice none 0 0, .int .i64 4]) ∧ w = w' := by
  have hc := Lib.hid (has_yes s (x := (i : Int)) (by omega) (by omega))
  obtain ⟨g, cap, m, vals, L, s, _⟩ := s
  have c2 := s.cells.2.2.1
  rw [ho] at c2
  clear s hi ho
  go_enter Try.func32, Try.ntmps32
  go_wp2_with fail
  refine hc.out.mono ?_
  rintro e w' ⟨rfl, rfl⟩
  go_wp2_with fail
  go_ret2
  exact ⟨rfl, rfl⟩

/-- What Read tells of a page. -/
def ReadTo (w : World) (q : Nat) (K P : Nat → Prop) (D : Dv) (p : Pg) (e : Ending) (w' : World) : Prop :=
  DTo w q K P w' D.read ∧ match p with
    | .blank => e = .returned (.tuple #[.slice none 0 0, .int .i64 5])
    | .torn => e = .returned (.tuple #[.slice none 0 0, .int .i64 6])
    | .whole bs => ∃ v, e = .returned (.tuple #[v, .int .i64 0]) ∧ w'.ownsRow w.heap.size 5 1 v bs.length (bytesV bs) ∧ bs.length = 384

set_option maxHeartbeats 1000000 in
set_option maxRecDepth 100000 in
theorem read_eq {w : World} {q : Nat} {K P : Nat → Prop} {D : Dv} (s : DevAt w q K P D) {i : Nat} (hi : i < D.pg.length) (ho : D.off = false) (p : Pg) (hp : D.now i = p) :
    Calls Try.prog 32 #[.pointer (some ⟨q, 0, none⟩), .int .i64 i] w (ReadTo w q K P D p) := by
  have hc := Lib.hid (has_yes s (x := (i : Int)) (by omega) (by omega))
  obtain ⟨g, cap, m, vals, L, s, hK, hl⟩ := s
  have HK := Lib.hid hK
  have HL := Lib.hid hl
  obtain ⟨c0, c1, c2, _, _, _, _, c7, _, fz⟩ := s.cells
  have z7 := fz 7
  have S := Lib.hid s
  have top := Lib.hid s.top
  rw [ho] at c2
  have hm := s.most
  have t := Lib.hid (s.to (D' := D.read) hK hl ((Fr.refl (One q) w).set1 (o := 7) (.int .i64 (inc D.n2))) (by
    rw [heap_setCell_same _ q 7 _ _ _ top.out]
    rfl) rfl s.arm0 s.arm1)
  have map2 := Lib.hid (s.map.keep ((Fr.refl (One q) w).set1 (o := 7) (.int .i64 (inc D.n2))) fun e => s.ne.2.1 (Eq.symm e))
  have hpq : ∀ k, P k → ¬ One q k := fun k hk e => (hl k hk).2 ((hK k).2 (.inl e))
  obtain ⟨c, hcp⟩ : ∃ c, D.pg[i]? = some c := ⟨_, List.getElem?_eq_getElem hi⟩
  have hnow : p = c.2.getD c.1 := by
    rw [← hp]
    unfold Dv.now Pc.now
    rw [List.getD_eq_getElem?_getD, hcp]
    rfl
  obtain ⟨v1, hv1, hp1⟩ := s.fl i c hcp
  have cv1 : w.cell? ⟨g, i, none⟩ = some v1 := by
    obtain ⟨cur, e1, e2, e3, e4, e5⟩ := s.block
    rw [cell_of_row w g i _ _ _ e1, ← Array.getElem?_toList]
    rw [← e5, List.getElem?_take, if_pos hi] at hv1
    exact hv1
  have hw := s.wt i c hcp
  have NE := Lib.hid s.ne
  have hP1 := hp1.keep ((Fr.refl (One q) w).set1 (o := 7) (.int .i64 (inc D.n2))) hpq
  have hW1 := hw.keep ((Fr.refl (One q) w).set1 (o := 7) (.int .i64 (inc D.n2))) hpq
  have hd : decide ((i : Int) < (D.pg.length : Int)) = true := by simpa using hi
  have hqg : ¬ g = q := fun e => s.ne.1 e.symm
  have NOW := Lib.hid hnow
  clear s hK hl fz hcp hv1 hp hnow hp1 hw
  cases hcw : c.2
  case' none =>
    rw [hcw] at hW1
    have hL : getM L (i : Int) = none := hW1
    have HLL := Lib.hid hL
    obtain ⟨pv, rfl⟩ := hP1.shape
    have PV : Hid (PgAt (w.setCell ⟨q, 7, none⟩ (.int .i64 (inc D.n2))) P (.pointer pv) p) := Lib.hid (by rw [NOW.out, hcw]; exact hP1)
    clear hL hW1 hP1 hcw
  case' some pp =>
    rw [hcw] at hW1
    obtain ⟨v2, hL, hP2⟩ := hW1
    have HLL := Lib.hid hL
    obtain ⟨pv, rfl⟩ := hP2.shape
    have PV : Hid (PgAt (w.setCell ⟨q, 7, none⟩ (.int .i64 (inc D.n2))) P (.pointer pv) p) := Lib.hid (by rw [NOW.out, hcw]; exact hP2)
    clear hL hP1 hP2 hcw
  all_goals
    have PV2 := PV.out
    have T := Lib.hid t.out
    cases p with
    | blank =>
      have hpv : pv = none := by simpa [PgAt] using PV2
      subst hpv
      clear PV PV2 t
      go_enter Try.func32, Try.ntmps32
      go_wp2_with fail
      refine hc.out.mono ?_
      rintro e w' ⟨rfl, rfl⟩
      go_wp2_with (at_lookup; (with_reducible refine wpList_lookupM rfl _ _ 97 rfl (int_key .i64) (val := id) Try.underlying97 Try.underlying3 (ptr_zero _) map2.out rfl (i : Int) rfl ?_); rw [HLL.out])
      go_ret2
      exact ⟨T.out, rfl⟩
    | torn =>
      obtain ⟨g1, b1, h1, h2, h3⟩ := PV2
      simp only [Value.pointer.injEq] at h1
      subst h1
      have d1 := cell_of_row _ g1 1 _ _ (0, 0) h3
      clear h3 PV t
      go_enter Try.func32, Try.ntmps32
      go_wp2_with fail
      refine hc.out.mono ?_
      rintro e w' ⟨rfl, rfl⟩
      go_wp2_with (at_lookup; (with_reducible refine wpList_lookupM rfl _ _ 97 rfl (int_key .i64) (val := id) Try.underlying97 Try.underlying3 (ptr_zero _) map2.out rfl (i : Int) rfl ?_); rw [HLL.out])
      go_ret2
      exact ⟨T.out, rfl⟩
    | whole bs =>
      obtain ⟨g1, r1, h1, h2, h3, h4, h5, h6⟩ := PV2
      simp only [Value.pointer.injEq] at h1
      subst h1
      have d0 := cell_of_row _ g1 0 _ _ (0, 0) h4
      have d1 := cell_of_row _ g1 1 _ _ (0, 0) h4
      have H5 := Lib.hid h5
      have H6 := Lib.hid h6
      clear h4 h5 h6 PV t
      go_enter Try.func32, Try.ntmps32
      go_wp2_with fail
      refine hc.out.mono ?_
      rintro e w' ⟨rfl, rfl⟩
      go_wp2_with (at_lookup; (with_reducible refine wpList_lookupM rfl _ _ 97 rfl (int_key .i64) (val := id) Try.underlying97 Try.underlying3 (ptr_zero _) map2.out rfl (i : Int) rfl ?_); rw [HLL.out])
      refine (clone_bytes H5.out H6.out).mono ?_
      rintro e w3 ⟨v, rfl, own, f3⟩
      have OWN := Lib.hid own
      have F3 := Lib.hid f3
      clear own f3
      go_wp2_with fail
      go_ret2
      have e : (w.setCell ⟨q, 7, none⟩ (.int .i64 (inc D.n2))).heap.size = w.heap.size := by simp
      have own2 := OWN.out
      rw [e] at own2
      exact ⟨T.out.plus F3.out, v, rfl, own2, H6.out⟩

end Go.Proofs.Ytpdljgjofebgpaa
