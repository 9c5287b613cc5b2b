/-
  Contracts of the slab's New, page, Free, Of, Class.
-/
import Derived.Test.YtpbbokpmlemboaaSlabC
namespace Go.Proofs.Ytpbbokpmlemboaa.Sl
open Go.RowKit

/-- A chunk that is taken: its page is there, and the chunk is taken on it. -/
def isTaken (S : List Pg) (x : Int) : Bool := decide (0 ≤ x) && decide (x / 64 < S.length) && (S.getD (x / 64).toNat Pg.new).tk (x % 64).toNat

set_option maxHeartbeats 1600000 in
set_option maxRecDepth 100000 in
theorem page_in (w : World) (p b : Nat) (S : List Pg) (x : Int) (h : SlabAt w p b S) (h0 : 0 ≤ x) (h1 : x / 64 < S.length) (h2 : (S.getD (x / 64).toNat Pg.new).tk (x % 64).toNat = true) :
    Calls Try.prog 51 #[.pointer (some ⟨p, 0, none⟩), .int .i64 x] w fun e w' => e = .returned (.pointer (some ⟨b, (x / 64).toNat * 66, none⟩)) ∧ w = w' := by
  have hp := h.head
  have hlen := h.len
  have hlt : (x / 64).toNat < S.length := by omega
  rw [getD_of hlt] at h2
  have hc := (h.toSlabRaw.page hlt).tk (x % 64).toNat (by omega)
  rw [h2] at hc
  clear h h2
  go_enter Try.func51, Try.ntmps51
  go_wp2_with fail
  go_ret
  exact ⟨rfl, rfl⟩

set_option maxHeartbeats 1600000 in
set_option maxRecDepth 100000 in
theorem page_out (w : World) (p b : Nat) (S : List Pg) (x : Int) (hx63 : x ≤ 9223372036854775807) (h : SlabAt w p b S) (hx : isTaken S x = false) :
    Calls Try.prog 51 #[.pointer (some ⟨p, 0, none⟩), .int .i64 x] w fun e w' => e = .returned (.pointer none) ∧ w = w' := by
  have hp := h.head
  have hlen := h.len
  by_cases h0 : 0 ≤ x
  · by_cases h1 : x / 64 < S.length
    · have hlt : (x / 64).toNat < S.length := by omega
      have h2 : (S.getD (x / 64).toNat Pg.new).tk (x % 64).toNat = false := by
        unfold isTaken at hx
        rw [decide_eq_true h0, decide_eq_true h1] at hx
        simpa using hx
      rw [getD_of hlt] at h2
      have hc := (h.toSlabRaw.page hlt).tk (x % 64).toNat (by omega)
      rw [h2] at hc
      clear h h2 hx
      go_enter Try.func51, Try.ntmps51
      go_wp2_with fail
      go_ret
      exact ⟨rfl, rfl⟩
    · clear h hx
      go_enter Try.func51, Try.ntmps51
      go_wp2_with fail
      go_ret
      exact ⟨rfl, rfl⟩
  · clear h hx
    go_enter Try.func51, Try.ntmps51
    go_wp2_with fail
    go_ret
    exact ⟨rfl, rfl⟩

theorem isTaken_parts {S : List Pg} {x : Int} (hx : isTaken S x = true) : 0 ≤ x ∧ x / 64 < S.length ∧ (S.getD (x / 64).toNat Pg.new).tk (x % 64).toNat = true := by
  simpa [isTaken, Bool.and_eq_true, and_assoc] using hx

def ofS (S : List Pg) (x : Int) : Int := if isTaken S x then (S.getD (x / 64).toNat Pg.new).cls else -1

set_option maxHeartbeats 1600000 in
theorem of_ok (w : World) (p b : Nat) (S : List Pg) (x : Int) (hx63 : x ≤ 9223372036854775807) (h : SlabAt w p b S) :
    Calls Try.prog 33 #[.pointer (some ⟨p, 0, none⟩), .int .i64 x] w fun e w' => e = .returned (.int .i64 (ofS S x)) ∧ w = w' := by
  have H := Lib.hid h
  by_cases hx : isTaken S x = true
  · have hr : ofS S x = (S.getD (x / 64).toNat Pg.new).cls := by unfold ofS; rw [if_pos hx]
    obtain ⟨h0, h1, h2⟩ := isTaken_parts hx
    have hlt : (x / 64).toNat < S.length := by omega
    have hc := (h.toSlabRaw.page hlt).cls
    rw [hr, getD_of hlt]
    clear h hr hx
    have h2' := Lib.hid h2
    clear h2
    go_enter Try.func33, Try.ntmps33
    go_wp2_with (go_at_call 51; refine (page_in _ p b S x H.out h0 h1 h2'.out).mono ?_; rintro e w' ⟨rfl, rfl⟩)
    go_ret
    exact ⟨rfl, rfl⟩
  · have hx' : isTaken S x = false := by simpa using hx
    have hr : ofS S x = -1 := by unfold ofS; rw [if_neg hx]
    rw [hr]
    clear h hr hx
    have h2' := Lib.hid hx'
    clear hx'
    go_enter Try.func33, Try.ntmps33
    go_wp2_with (go_at_call 51; refine (page_out _ p b S x hx63 H.out h2'.out).mono ?_; rintro e w' ⟨rfl, rfl⟩)
    go_ret
    exact ⟨rfl, rfl⟩

def freeS (S : List Pg) (x : Int) : List Pg :=
  if isTaken S x then (let q := S.getD (x / 64).toNat Pg.new; S.set (x / 64).toNat ⟨q.cls, upd q.tk (x % 64).toNat false, q.us - 1⟩) else S

theorem Pg.ok.free_ {p : Pg} (h : p.ok) {k : Nat} (hk : p.tk k = true) : (⟨p.cls, upd p.tk k false, p.us - 1⟩ : Pg).ok ∧ 1 ≤ p.us ∧ 0 ≤ p.cls ∧ p.cls < 6 := by
  rcases h with h | ⟨h0, h6, h3, h4⟩
  · rw [h.2.2 k] at hk; cases hk
  · have hlt : k < (chunksOf p.cls).toNat := by
      by_cases e : k < (chunksOf p.cls).toNat
      · exact e
      · rw [h4 k (by omega)] at hk; cases hk
    have := cnt_upd p.tk k (chunksOf p.cls).toNat false hlt
    rw [hk] at this
    simp at this
    refine ⟨.inr ⟨h0, h6, ?_, fun j hj => ?_⟩, by omega, h0, h6⟩
    · show p.us - 1 = _
      rw [h3]; simp only; omega
    · show upd p.tk k false j = false
      unfold upd
      split
      · rfl
      · exact h4 j hj

set_option maxHeartbeats 1600000 in
set_option maxRecDepth 100000 in
theorem free_ok (w : World) (p b : Nat) (S : List Pg) (x : Int) (hx63 : x ≤ 9223372036854775807) (h : SlabAt w p b S) :
    Calls Try.prog 60 #[.pointer (some ⟨p, 0, none⟩), .int .i64 x] w fun e w' => e = .returned (.int .i64 (if isTaken S x then 0 else 5)) ∧ SlabAt w' p b (freeS S x) ∧ Fr (One b) w w' := by
  have H := Lib.hid h
  by_cases hx : isTaken S x = true
  · have hr : freeS S x = S.set (x / 64).toNat ⟨(S.getD (x / 64).toNat Pg.new).cls, upd (S.getD (x / 64).toNat Pg.new).tk (x % 64).toNat false, (S.getD (x / 64).toNat Pg.new).us - 1⟩ := by unfold freeS; rw [if_pos hx]
    obtain ⟨h0, h1, h2⟩ := isTaken_parts hx
    have hlt : (x / 64).toNat < S.length := by omega
    rw [if_pos hx, hr, getD_of hlt]
    have hpg := h.toSlabRaw.page hlt
    have hc := hpg.tk (x % 64).toNat (by omega)
    have hf := hpg.ftk (x % 64).toNat (by omega)
    have hu := hpg.us
    have hfu := hpg.fus
    have hok := (ok_of_mem h.ok hlt)
    have hus := hok.us
    have hok' := Lib.hid (hok.free_ (k := (x % 64).toNat) (by rw [← getD_of hlt]; exact h2))
    have hus1 := hok'.out.2.1
    have hend := ((h.toSlabRaw.set_tk hlt (k := (x % 64).toNat) (by omega) false).set_us (i := (x / 64).toNat) (by rw [List.length_set]; exact hlt) (S[(x / 64).toNat].us - 1))
    simp only [List.getElem_set_self, List.set_set] at hend
    have hend' := Lib.hid (hend.at_ (set_ok h.ok (x / 64).toNat hok'.out.1))
    have hcs := cell?_setCell_some (w := w) (p := ⟨b, (x / 64).toNat * 66 + 1 + (x % 64).toNat, none⟩) (x := .bool false) hu
    clear hend h hr hx hpg hok
    have h2' := Lib.hid h2
    clear h2
    go_enter Try.func60, Try.ntmps60
    go_wp2_with (go_at_call 51; refine (page_in _ p b S x H.out h0 h1 h2'.out).mono ?_; rintro e w' ⟨rfl, rfl⟩)
    go_ret
    exact ⟨rfl, hend'.out, ((Fr.refl _ _).set1 _).set1 _⟩
  · have hx' : isTaken S x = false := by simpa using hx
    have hr : freeS S x = S := by unfold freeS; rw [if_neg hx]
    rw [hr, if_neg hx]
    clear h hr hx
    have h2' := Lib.hid hx'
    clear hx'
    go_enter Try.func60, Try.ntmps60
    go_wp2_with (go_at_call 51; refine (page_out _ p b S x hx63 H.out h2'.out).mono ?_; rintro e w' ⟨rfl, rfl⟩)
    go_ret
    exact ⟨rfl, H.out, Fr.refl _ _⟩

def Pg.zero : Pg := ⟨0, fun _ => false, 0⟩
def begun (k n : Nat) : List Pg := List.replicate k Pg.new ++ List.replicate (n - k) Pg.zero
theorem begun_len {k n : Nat} (h : k ≤ n) : (begun k n).length = n := by simp [begun]; omega
theorem begun_get {k n : Nat} (h : k < n) (hl : k < (begun k n).length) : (begun k n)[k] = Pg.zero := by
  have e : (begun k n)[k]? = some Pg.zero := by
    unfold begun
    rw [List.getElem?_append_right (by simp)]
    simp [List.getElem?_replicate]
    omega
  rw [List.getElem?_eq_getElem hl] at e
  injection e
theorem begun_set {k n : Nat} (h : k < n) : (begun k n).set k ⟨-1, Pg.zero.tk, Pg.zero.us⟩ = begun (k + 1) n := by
  unfold begun
  obtain ⟨m, rfl⟩ : ∃ m, n = k + (m + 1) := ⟨n - k - 1, by omega⟩
  rw [show k + (m + 1) - k = m + 1 by omega, show k + (m + 1) - (k + 1) = m by omega, List.set_append_right _ _ (by simp), List.replicate_succ' (n := k)]
  simp [List.replicate_succ]
  rfl

theorem page_info3 : (Try.prog.info? 90).map (fun i => (i.zero.map Value.cells, i.size, i.bytes)) = some (some pageZ, 66, 80) := by kernel_rfl

theorem made_page (n i j : Nat) (hi : i < n) (hj : j < 66) : (madeCells pageZ (n * 66))[i * 66 + j]? = pageZ[j]? := by
  have hlt : i * 66 + j < n * 66 := by have := Nat.mul_le_mul_right 66 (Nat.succ_le_of_lt hi); omega
  unfold madeCells
  rw [pageZ_size, Array.getElem?_map, Array.getElem?_range, if_pos hlt]
  have e : (i * 66 + j) % 66 = j := by rw [Nat.add_comm, Nat.add_mul_mod_self_right]; exact Nat.mod_eq_of_lt hj
  simp only [Option.map_some, e]
  have hsz : j < pageZ.size := by rw [pageZ_size]; exact hj
  rw [getElem!_pos pageZ j hsz, Array.getElem?_eq_getElem hsz]
theorem pageZ_get : pageZ[0]? = some (.int .i64 0) ∧ pageZ[65]? = some (.int .i64 0) ∧ ∀ k, k < 64 → pageZ[1 + k]? = some (.bool false) := by
  refine ⟨rfl, rfl, fun k hk => ?_⟩
  unfold pageZ
  rw [Array.getElem?_append_left (by simp; omega), Array.getElem?_append_right (by simp)]
  simp [hk]

theorem SlabRaw.made {w : World} {n : Nat} (h2 : n ≤ 1024) {cs : Array Value} (hcs : cs = madeCells pageZ (n * 66)) :
    SlabRaw ((w.alloc (.cells cs 90)).alloc (.cells #[.slice (some ⟨w.heap.size, 0, none⟩) n n] 87)) (w.heap.size + 1) w.heap.size (begun 0 n) := by
  have hl := begun_len (Nat.zero_le n)
  refine ⟨?_, ⟨cs, ?_, ?_, ?_⟩, by rw [hl]; exact h2⟩
  · rw [hl]
    have := heap_alloc_new (w.alloc (.cells cs 90)) (.cells #[.slice (some ⟨w.heap.size, 0, none⟩) n n] 87)
    simpa using this
  · rw [Below.heap_alloc _ _ _ (by simp)]
    exact heap_alloc_new w _
  · rw [hl, hcs, size_madeCells]
  · intro i hi
    rw [hl] at hi
    have hg : (begun 0 n)[i]'(by rw [hl]; exact hi) = Pg.zero := by simp [begun]
    rw [hg, hcs]
    obtain ⟨z1, z2, z3⟩ := pageZ_get
    refine ⟨?_, fun k hk => ?_, ?_⟩
    · have := made_page n i 0 hi (by omega)
      rw [Nat.add_zero] at this
      rw [this]; exact z1
    · rw [Nat.add_assoc, made_page n i (1 + k) hi (by omega)]; exact z3 k hk
    · rw [made_page n i 65 hi (by omega)]; exact z2

set_option maxHeartbeats 1600000 in
set_option maxRecDepth 100000 in
theorem new_ok (w : World) (n : Nat) (h1 : 1 ≤ n) (h2 : n ≤ 1024) :
    Calls Try.prog 21 #[.int .i64 n] w fun e w' => e = .returned (.tuple #[.pointer (some ⟨w.heap.size + 1, 0, none⟩), .int .i64 0]) ∧ SlabAt w' (w.heap.size + 1) w.heap.size (List.replicate n Pg.new) ∧ Fr Nob w w' := by
  go_enter Try.func21, Try.ntmps21
  go_wp2_with (with_reducible refine wpList_make_all (o := ⟨some 13, _, _, _, _, _⟩) rfl (.tmp 12) (.tmp 12) 85 rfl 90 pageZ 66 80 Try.underlying85 page_info3 .i64 .i64 n rfl rfl (by omega) (by omega) ?_)
  intro cs hcs
  have hS := Lib.hid (SlabRaw.made (w := w) h2 hcs.out)
  have hF := Lib.hid (((Fr.refl Nob w).alloc (.cells cs 90)).alloc (.cells #[.slice (some ⟨w.heap.size, 0, none⟩) n n] 87))
  go_wp2_with fail
  go_loopw [5, 21] (fun _ i wr => ∃ (k : Nat), k ≤ n ∧ i = .int .i64 k ∧ Hid (SlabRaw wr (w.heap.size + 1) w.heap.size (begun k n)) ∧ Hid (Fr Nob w wr)) (fun _ i _ => n - (intOf i).toNat)
  case atStart => exact ⟨0, Nat.zero_le _, rfl, hS, hF⟩
  case round =>
    clear hS hF
    obtain ⟨k, hk, rfl, hS, hF⟩ := hrel
    by_cases hlt : k < n
    · have hl := begun_len hk
      have hkl : k < (begun k n).length := by rw [hl]; exact hlt
      have hpg := hS.out.page hkl
      have hc := hpg.cls
      have hf := hpg.fcls
      have hh : wr.cell? ⟨w.heap.size + 1, 0, none⟩ = some (.slice (some ⟨w.heap.size, 0, none⟩) n n) := by
        have := hS.out.hd
        rw [hl] at this
        exact cell_of_one this
      have hS' := hS.out.set_cls hkl (-1)
      rw [begun_get hlt hkl, begun_set hlt] at hS'
      have hF' := hF.out.setCell ⟨w.heap.size, k * 66, none⟩ (fun h => absurd h (Nat.lt_irrefl _)) (.int .i64 (-1))
      have HS := Lib.hid hS'
      have HF := Lib.hid hF'
      clear hS' hF' hpg hl
      go_wp2_with fail
      go_roundw
      case rel => exact ⟨k + 1, by omega, by go_num, HS, HF⟩
      case measure => simp [intOf]; omega
    · have hkn : k = n := by omega
      have hS' := hS.out
      rw [hkn] at hS'
      have e : begun n n = List.replicate n Pg.new := by simp [begun]
      rw [e] at hS'
      have HS := Lib.hid (hS'.at_ (fun q hq => by rw [(List.mem_replicate.1 hq).2]; exact .inl ⟨rfl, rfl, fun _ => rfl⟩))
      clear hS' hkn e
      go_wp2_with fail
      go_ret2
      exact ⟨rfl, HS.out, hF.out⟩

end Go.Proofs.Ytpbbokpmlemboaa.Sl
