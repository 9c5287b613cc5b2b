/-
  Contracts of the slab's Left, Pages, Used.
-/
import Derived.Test.YtamcnieneelmmaaSlabB
namespace Go.Proofs.Ytamcnieneelmmaa
open Go.RowKit

def pageZ : Array Value := #[.int .i64 0] ++ Array.replicate 64 (.bool false) ++ #[.int .i64 0]
theorem page_info : (Try.prog.info? 51).map (fun i => (i.zero.map Value.cells, i.size)) = some (some pageZ, 66) := by kernel_rfl
theorem page_size : (Try.prog.info? 51).map (·.size) = some 66 := by kernel_rfl
theorem pageZ_size : pageZ.size = 66 := by kernel_rfl

theorem SlabRaw.cells {w : World} {p b : Nat} {S : List Pg} (h : SlabRaw w p b S) {i : Nat} (hi : i < S.length) :
    ∃ cs cur : Array Value, w.heap[b]? = some (.cells cur 51 (0, 0)) ∧ cs.size = 66 ∧ (∀ j, j < 66 → cur[i * 66 + j]? = cs[j]?) ∧ cs[0]? = some (.int .i64 S[i].cls) ∧ cs[65]? = some (.int .i64 S[i].us) ∧ ∀ v, v ∈ cs → v.oneCell' = true := by
  obtain ⟨cur, h1, h2, h3⟩ := h.row
  have h4 := h3 i hi
  have hle : i * 66 + 66 ≤ cur.size := by rw [h2]; have := Nat.mul_le_mul_right 66 (Nat.succ_le_of_lt hi); omega
  have hj : ∀ j, j < 66 → cur[i * 66 + j]? = (cur.extract (i * 66) (i * 66 + 66))[j]? := fun j hj => by
    rw [Array.getElem?_extract, if_pos (by omega)]
  refine ⟨cur.extract (i * 66) (i * 66 + 66), cur, h1, by simp; omega, hj, ?_, ?_, ?_⟩
  · rw [← hj 0 (by omega)]; exact h4.cls
  · rw [← hj 65 (by omega)]; exact h4.us
  · intro v hv
    obtain ⟨j, hjl, rfl⟩ := Array.mem_iff_getElem.1 hv
    have hj66 : j < 66 := by simp at hjl; omega
    have e := hj j hj66
    rw [Array.getElem?_eq_getElem hjl] at e
    by_cases h0 : j = 0
    · subst h0; rw [show i * 66 + 0 = i * 66 from rfl, h4.cls] at e; injection e with e; rw [← e]; rfl
    · by_cases h65 : j = 65
      · subst h65; rw [h4.us] at e; injection e with e; rw [← e]; rfl
      · have := h4.tk (j - 1) (by omega)
        rw [show i * 66 + 1 + (j - 1) = i * 66 + j by omega, e] at this
        injection this with this
        rw [this]; rfl

theorem count_succ {f : Pg → Bool} {S : List Pg} {k : Nat} (hk : k < S.length) : (S.take (k + 1)).countP f = (S.take k).countP f + (if f S[k] then 1 else 0) := by
  rw [List.take_succ_eq_append_getElem hk, List.countP_append]
  simp [List.countP_cons]
theorem count_bd {f : Pg → Bool} {S : List Pg} {k : Nat} (hl : S.length ≤ 1024) : (S.take k).countP f ≤ 1024 :=
  Nat.le_trans List.countP_le_length (Nat.le_trans (List.length_take_le' _ _) hl)

def sumBy (f : Pg → Int) (S : List Pg) : Int := (S.map f).sum
theorem sumBy_succ {f : Pg → Int} {S : List Pg} {k : Nat} (hk : k < S.length) : sumBy f (S.take (k + 1)) = sumBy f (S.take k) + f S[k] := by
  unfold sumBy
  rw [List.take_succ_eq_append_getElem hk, List.map_append, List.sum_append]
  simp
theorem sumBy_bd {f : Pg → Int} (h : ∀ q : Pg, q.ok → 0 ≤ f q ∧ f q ≤ 64) : ∀ (S : List Pg), (∀ q, q ∈ S → q.ok) → 0 ≤ sumBy f S ∧ sumBy f S ≤ 64 * S.length
  | [], _ => by simp [sumBy]
  | q :: S, hq => by
    have := sumBy_bd h S fun r hr => hq r (List.mem_cons_of_mem _ hr)
    have h1 := h q (hq q List.mem_cons_self)
    simp only [sumBy, List.map_cons, List.sum_cons, List.length_cons] at this ⊢
    omega
theorem Pg.ok.us {q : Pg} (h : q.ok) : 0 ≤ q.us ∧ q.us ≤ 64 := by
  rcases h with h | ⟨h0, h6, h3, _⟩
  · omega
  · have := cnt_le q.tk (chunksOf q.cls).toNat
    have := chunksOf_pos q.cls h0 h6
    omega
def usedF (c : Int) (q : Pg) : Int := if (q.cls == c) = true then q.us else 0
theorem usedF_bd (c : Int) (q : Pg) (h : q.ok) : 0 ≤ usedF c q ∧ usedF c q ≤ 64 := by
  unfold usedF
  have := h.us
  split <;> omega
theorem used_bd {c : Int} {S : List Pg} {k : Nat} (h : ∀ q, q ∈ S → q.ok) (hl : S.length ≤ 1024) : 0 ≤ sumBy (usedF c) (S.take k) ∧ sumBy (usedF c) (S.take k) ≤ 65536 := by
  have := sumBy_bd (usedF_bd c) (S.take k) fun q hq => h q (List.mem_of_mem_take hq)
  have := List.length_take_le' k S
  omega
def pagesF (c : Int) (q : Pg) : Bool := q.cls == c && c != -1

set_option maxHeartbeats 1600000 in
set_option maxRecDepth 100000 in
theorem left_ok (w : World) (p b : Nat) (S : List Pg) (h : SlabAt w p b S) :
    Calls Try.prog 17 #[.pointer (some ⟨p, 0, none⟩)] w fun e w' => e = .returned (.int .i64 (S.countP fits2)) ∧ Fr Nob w w' := by
  have hp := h.head
  have hlen := h.len
  have H := Lib.hid h
  clear h
  go_enter Try.func17, Try.ntmps17
  go_wp2_with fail
  go_loopw [3, 5, 11] (fun n _ i wr => ∃ (k : Nat), k ≤ S.length ∧ i = .int .i64 k ∧ Fr Nob w wr ∧ n = .int .i64 ((S.take k).countP fits2)) (fun _ _ i _ => S.length - (intOf i).toNat)
  case atStart => exact ⟨0, Nat.zero_le _, rfl, Fr.refl _ _, rfl⟩
  case round =>
    obtain ⟨k, hk, rfl, hfr, rfl⟩ := hrel
    have hbd := count_bd (f := fits2) (k := k) hlen
    by_cases hlt : k < S.length
    · have H' := Lib.hid (H.out.keep hfr (fun h => h) (fun h => h))
      have hus := (ok_of_mem H.out.ok hlt).us
      obtain ⟨cs, cur, hrow, hsz, hj, h0, h65, hone⟩ := H'.out.toSlabRaw.cells hlt
      have hrow' := Lib.hid hrow
      have hj' := Lib.hid hj
      have hsz' := Lib.hid hsz
      have hone' := Lib.hid hone
      clear hrow hj hsz hone
      have hfr' := Lib.hid (hfr.alloc (.cells cs 51))
      clear hfr
      have hcs := Lib.hid (count_succ (f := fits2) hlt)
      by_cases hA : (S[k].cls == -1) = true
      · go_wp2_with (first
            | (with_reducible refine wpList_load_mid (o := ⟨some 14, _, _, _, _, _⟩) rfl 51 (.tmp 13) rfl b (k * 66) 66 rfl _ cur cs (0, 0) _ hrow'.out Try.underlying51 rfl page_size hsz'.out hj'.out ?_)
            | (with_reducible refine wpList_alloc_store (o1 := ⟨some 5, _, _, _, _, _⟩) rfl rfl 51 5 (.tmp 14) rfl rfl rfl rfl cs pageZ (by rw [hsz'.out]; exact page_info) (by rw [hsz'.out]; exact pageZ_size) rfl rfl hone'.out ?_))
        go_roundw
        case rel => exact ⟨k + 1, by omega, by go_num, hfr'.out, by rw [hcs.out, fits2, if_pos hA]; go_num⟩
        case measure => simp [intOf]; omega
      · have hA' : (S[k].cls == -1) = false := by simpa using hA
        have hB := Lib.hid hA
        clear hA
        go_wp2_with (first
            | (with_reducible refine wpList_load_mid (o := ⟨some 14, _, _, _, _, _⟩) rfl 51 (.tmp 13) rfl b (k * 66) 66 rfl _ cur cs (0, 0) _ hrow'.out Try.underlying51 rfl page_size hsz'.out hj'.out ?_)
            | (with_reducible refine wpList_alloc_store (o1 := ⟨some 5, _, _, _, _, _⟩) rfl rfl 51 5 (.tmp 14) rfl rfl rfl rfl cs pageZ (by rw [hsz'.out]; exact page_info) (by rw [hsz'.out]; exact pageZ_size) rfl rfl hone'.out ?_))
        go_roundw
        case rel => exact ⟨k + 1, by omega, by go_num, hfr'.out, by rw [hcs.out, fits2, if_neg hB.out]; go_num⟩
        case measure => simp [intOf]; omega
    · have he : k = S.length := by omega
      have hk' := Lib.hid he
      clear he
      have hfr' := Lib.hid hfr
      clear hfr
      go_wp2_with fail
      go_ret
      exact ⟨ret_int (by rw [hk'.out, List.take_length]), hfr'.out⟩

set_option maxHeartbeats 1600000 in
set_option maxRecDepth 100000 in
theorem used_ok (w : World) (p b : Nat) (S : List Pg) (c : Int) (h : SlabAt w p b S) :
    Calls Try.prog 22 #[.pointer (some ⟨p, 0, none⟩), .int .i64 c] w fun e w' => e = .returned (.int .i64 (sumBy (usedF c) S)) ∧ Fr Nob w w' := by
  have hp := h.head
  have hlen := h.len
  have H := Lib.hid h
  clear h
  go_enter Try.func22, Try.ntmps22
  go_wp2_with fail
  go_loopw [5, 7, 13] (fun n _ i wr => ∃ (k : Nat), k ≤ S.length ∧ i = .int .i64 k ∧ Fr Nob w wr ∧ n = .int .i64 (sumBy (usedF c) (S.take k))) (fun _ _ i _ => S.length - (intOf i).toNat)
  case atStart => exact ⟨0, Nat.zero_le _, rfl, Fr.refl _ _, rfl⟩
  case round =>
    obtain ⟨k, hk, rfl, hfr, rfl⟩ := hrel
    have hbd := used_bd (c := c) (k := k) H.out.ok hlen
    by_cases hlt : k < S.length
    · have H' := Lib.hid (H.out.keep hfr (fun h => h) (fun h => h))
      have hus := (ok_of_mem H.out.ok hlt).us
      obtain ⟨cs, cur, hrow, hsz, hj, h0, h65, hone⟩ := H'.out.toSlabRaw.cells hlt
      have hrow' := Lib.hid hrow
      have hj' := Lib.hid hj
      have hsz' := Lib.hid hsz
      have hone' := Lib.hid hone
      clear hrow hj hsz hone
      have hfr' := Lib.hid (hfr.alloc (.cells cs 51))
      clear hfr
      have hcs := Lib.hid (sumBy_succ (f := usedF c) hlt)
      by_cases hA : (S[k].cls == c) = true
      · go_wp2_with (first
            | (with_reducible refine wpList_load_mid (o := ⟨some 16, _, _, _, _, _⟩) rfl 51 (.tmp 15) rfl b (k * 66) 66 rfl _ cur cs (0, 0) _ hrow'.out Try.underlying51 rfl page_size hsz'.out hj'.out ?_)
            | (with_reducible refine wpList_alloc_store (o1 := ⟨some 7, _, _, _, _, _⟩) rfl rfl 51 7 (.tmp 16) rfl rfl rfl rfl cs pageZ (by rw [hsz'.out]; exact page_info) (by rw [hsz'.out]; exact pageZ_size) rfl rfl hone'.out ?_))
        go_roundw
        case rel => exact ⟨k + 1, by omega, by go_num, hfr'.out, by rw [hcs.out, usedF, if_pos hA]⟩
        case measure => simp [intOf]; omega
      · have hA' : (S[k].cls == c) = false := by simpa using hA
        have hB := Lib.hid hA
        clear hA
        go_wp2_with (first
            | (with_reducible refine wpList_load_mid (o := ⟨some 16, _, _, _, _, _⟩) rfl 51 (.tmp 15) rfl b (k * 66) 66 rfl _ cur cs (0, 0) _ hrow'.out Try.underlying51 rfl page_size hsz'.out hj'.out ?_)
            | (with_reducible refine wpList_alloc_store (o1 := ⟨some 7, _, _, _, _, _⟩) rfl rfl 51 7 (.tmp 16) rfl rfl rfl rfl cs pageZ (by rw [hsz'.out]; exact page_info) (by rw [hsz'.out]; exact pageZ_size) rfl rfl hone'.out ?_))
        go_roundw
        case rel => exact ⟨k + 1, by omega, by go_num, hfr'.out, by rw [hcs.out, usedF, if_neg hB.out]; go_num⟩
        case measure => simp [intOf]; omega
    · have he : k = S.length := by omega
      have hk' := Lib.hid he
      clear he
      have hfr' := Lib.hid hfr
      clear hfr
      go_wp2_with fail
      go_ret
      exact ⟨ret_int (by rw [hk'.out, List.take_length]), hfr'.out⟩

set_option maxHeartbeats 1600000 in
set_option maxRecDepth 100000 in
theorem pages_ok (w : World) (p b : Nat) (S : List Pg) (c : Int) (h : SlabAt w p b S) :
    Calls Try.prog 23 #[.pointer (some ⟨p, 0, none⟩), .int .i64 c] w fun e w' => e = .returned (.int .i64 (S.countP (pagesF c))) ∧ Fr Nob w w' := by
  have hp := h.head
  have hlen := h.len
  have H := Lib.hid h
  clear h
  go_enter Try.func23, Try.ntmps23
  go_wp2_with fail
  go_loopw [5, 7, 13] (fun n _ i wr => ∃ (k : Nat), k ≤ S.length ∧ i = .int .i64 k ∧ Fr Nob w wr ∧ n = .int .i64 ((S.take k).countP (pagesF c))) (fun _ _ i _ => S.length - (intOf i).toNat)
  case atStart => exact ⟨0, Nat.zero_le _, rfl, Fr.refl _ _, rfl⟩
  case round =>
    obtain ⟨k, hk, rfl, hfr, rfl⟩ := hrel
    have hbd := count_bd (f := pagesF c) (k := k) hlen
    by_cases hlt : k < S.length
    · have H' := Lib.hid (H.out.keep hfr (fun h => h) (fun h => h))
      have hus := (ok_of_mem H.out.ok hlt).us
      obtain ⟨cs, cur, hrow, hsz, hj, h0, h65, hone⟩ := H'.out.toSlabRaw.cells hlt
      have hrow' := Lib.hid hrow
      have hj' := Lib.hid hj
      have hsz' := Lib.hid hsz
      have hone' := Lib.hid hone
      clear hrow hj hsz hone
      have hfr' := Lib.hid (hfr.alloc (.cells cs 51))
      clear hfr
      have hcs := Lib.hid (count_succ (f := pagesF c) hlt)
      by_cases hA : (S[k].cls == c) = true
      · by_cases hC : (c != -1) = true
        · have hF := Lib.hid (show pagesF c S[k] = true by simp [pagesF, hA, hC])
          go_wp2_with (first
              | (with_reducible refine wpList_load_mid (o := ⟨some 16, _, _, _, _, _⟩) rfl 51 (.tmp 15) rfl b (k * 66) 66 rfl _ cur cs (0, 0) _ hrow'.out Try.underlying51 rfl page_size hsz'.out hj'.out ?_)
              | (with_reducible refine wpList_alloc_store (o1 := ⟨some 7, _, _, _, _, _⟩) rfl rfl 51 7 (.tmp 16) rfl rfl rfl rfl cs pageZ (by rw [hsz'.out]; exact page_info) (by rw [hsz'.out]; exact pageZ_size) rfl rfl hone'.out ?_))
          go_roundw
          case rel => exact ⟨k + 1, by omega, by go_num, hfr'.out, by rw [hcs.out, if_pos hF.out]; go_num⟩
          case measure => simp [intOf]; omega
        · have hC' : (c != -1) = false := by simpa using hC
          have hF := Lib.hid (show ¬ pagesF c S[k] = true by simp [pagesF, hC'])
          clear hC
          go_wp2_with (first
              | (with_reducible refine wpList_load_mid (o := ⟨some 16, _, _, _, _, _⟩) rfl 51 (.tmp 15) rfl b (k * 66) 66 rfl _ cur cs (0, 0) _ hrow'.out Try.underlying51 rfl page_size hsz'.out hj'.out ?_)
              | (with_reducible refine wpList_alloc_store (o1 := ⟨some 7, _, _, _, _, _⟩) rfl rfl 51 7 (.tmp 16) rfl rfl rfl rfl cs pageZ (by rw [hsz'.out]; exact page_info) (by rw [hsz'.out]; exact pageZ_size) rfl rfl hone'.out ?_))
          go_roundw
          case rel => exact ⟨k + 1, by omega, by go_num, hfr'.out, by rw [hcs.out, if_neg hF.out]; go_num⟩
          case measure => simp [intOf]; omega
      · have hA' : (S[k].cls == c) = false := by simpa using hA
        have hF := Lib.hid (show ¬ pagesF c S[k] = true by simp [pagesF, hA'])
        clear hA
        go_wp2_with (first
            | (with_reducible refine wpList_load_mid (o := ⟨some 16, _, _, _, _, _⟩) rfl 51 (.tmp 15) rfl b (k * 66) 66 rfl _ cur cs (0, 0) _ hrow'.out Try.underlying51 rfl page_size hsz'.out hj'.out ?_)
            | (with_reducible refine wpList_alloc_store (o1 := ⟨some 7, _, _, _, _, _⟩) rfl rfl 51 7 (.tmp 16) rfl rfl rfl rfl cs pageZ (by rw [hsz'.out]; exact page_info) (by rw [hsz'.out]; exact pageZ_size) rfl rfl hone'.out ?_))
        go_roundw
        case rel => exact ⟨k + 1, by omega, by go_num, hfr'.out, by rw [hcs.out, if_neg hF.out]; go_num⟩
        case measure => simp [intOf]; omega
    · have he : k = S.length := by omega
      have hk' := Lib.hid he
      clear he
      have hfr' := Lib.hid hfr
      clear hfr
      go_wp2_with fail
      go_ret
      exact ⟨ret_int (by rw [hk'.out, List.take_length]), hfr'.out⟩

end Go.Proofs.Ytamcnieneelmmaa
