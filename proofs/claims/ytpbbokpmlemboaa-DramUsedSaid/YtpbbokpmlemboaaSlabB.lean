/-
  Contracts of the slab's Take, Free, Of, page.
-/
import Derived.Test.YtpbbokpmlemboaaSlabA
namespace Go.Proofs.Ytpbbokpmlemboaa.Sl
open Go.RowKit

def Pg.new : Pg := ⟨-1, fun _ => false, 0⟩

def fits1 (c : Int) (q : Pg) : Bool := q.cls == c && decide (q.us < chunksOf c)
def fits2 (q : Pg) : Bool := q.cls == -1
def fits3 (q : Pg) : Bool := q.us == 0

/-- The page out of which Take takes. -/
def slot (S : List Pg) (c : Int) : Option Nat := (S.findIdx? (fits1 c)).or ((S.findIdx? fits2).or (S.findIdx? fits3))
def freeIn (tk : Nat → Bool) : Nat := ((List.range 64).find? fun k => !tk k).getD 64
def inCls (c : Int) : Bool := decide (0 ≤ c) && decide (c < 6)
def takeS (S : List Pg) (c : Int) : List Pg :=
  if inCls c then
    match slot S c with
    | none => S
    | some i => let q := S.getD i Pg.new; S.set i ⟨c, upd q.tk (freeIn q.tk) true, q.us + 1⟩
  else S
def takeN (S : List Pg) (c : Int) : Int :=
  if inCls c then
    match slot S c with
    | none => 0
    | some i => 64 * (i : Int) + (freeIn (S.getD i Pg.new).tk : Int)
  else 0
def takeE (S : List Pg) (c : Int) : Int :=
  if inCls c then
    match slot S c with
    | none => 7
    | some _ => 0
  else 1

theorem freeIn_of (tk : Nat → Bool) (k : Nat) (hk : k < 64) (h1 : tk k = false) (h2 : ∀ j, j < k → tk j = true) : freeIn tk = k := by
  unfold freeIn
  have : (List.range 64).find? (fun k => !tk k) = some k := by
    rw [List.find?_range_eq_some]
    exact ⟨by simp [h1], by simpa using hk, fun j hj => by simp [h2 j hj]⟩
  rw [this]; rfl

theorem Pg.ok.free {p : Pg} (h : p.ok) (h0 : 0 ≤ p.cls) (hu : p.us < chunksOf p.cls) :
    ((freeIn p.tk : Int) < chunksOf p.cls ∧ p.tk (freeIn p.tk) = false ∧ ∀ j, j < freeIn p.tk → p.tk j = true) ∧ 0 ≤ p.us := by
  rcases h with h | ⟨_, h6, h1, h2⟩
  · omega
  · have hp := chunksOf_pos p.cls h0 h6
    have hc : cnt p.tk (chunksOf p.cls).toNat < (chunksOf p.cls).toNat := by omega
    obtain ⟨k, hk, h3, h4⟩ := cnt_free p.tk _ hc
    have := freeIn_of p.tk k (by omega) h3 h4
    rw [this]
    exact ⟨⟨by omega, h3, h4⟩, by omega⟩

/-- One chunk more is taken. -/
theorem Pg.ok.take {p : Pg} (h : p.ok) (h0 : 0 ≤ p.cls) (hu : p.us < chunksOf p.cls) : (⟨p.cls, upd p.tk (freeIn p.tk) true, p.us + 1⟩ : Pg).ok := by
  obtain ⟨⟨h1, h2, _⟩, _⟩ := h.free h0 hu
  rcases h with h | ⟨_, h6, h3, h4⟩
  · omega
  · refine .inr ⟨h0, h6, ?_, fun k hk => ?_⟩
    · have := cnt_upd p.tk (freeIn p.tk) (chunksOf p.cls).toNat true (by omega)
      rw [h2] at this
      simp at this
      show p.us + 1 = _
      rw [this, h3]
      omega
    · show upd p.tk (freeIn p.tk) true k = false
      unfold upd
      simp only at hk
      rw [if_neg (by omega)]
      exact h4 k hk

/-- An empty page may be given to any class. -/
theorem Pg.ok.empty {p : Pg} (h : p.ok) (hu : p.us = 0) : ∀ k, p.tk k = false := by
  rcases h with h | ⟨h0, h6, h3, h4⟩
  · exact h.2.2
  · intro k
    by_cases hk : (chunksOf p.cls).toNat ≤ k
    · exact h4 k hk
    · exact cnt_none p.tk (chunksOf p.cls).toNat (by omega) k (by omega)
theorem cnt_zero (tk : Nat → Bool) (n : Nat) (h : ∀ k, tk k = false) : cnt tk n = 0 := by
  induction n with
  | zero => rfl
  | succ n ih => unfold cnt; rw [ih, h n]; rfl
theorem Pg.ok.turn {p : Pg} (h : p.ok) (hu : p.us = 0) (c : Int) (h0 : 0 ≤ c) (h6 : c < 6) : (⟨c, p.tk, p.us⟩ : Pg).ok :=
  .inr ⟨h0, h6, by show p.us = _; rw [hu, cnt_zero _ _ (h.empty hu)]; rfl, fun k _ => h.empty hu k⟩

theorem SlabRaw.at_ {w : World} {p b : Nat} {S : List Pg} (h : SlabRaw w p b S) (hok : ∀ q, q ∈ S → q.ok) : SlabAt w p b S := ⟨h, hok⟩

theorem set_ok {S : List Pg} (h : ∀ q, q ∈ S → q.ok) (i : Nat) {q : Pg} (hq : q.ok) : ∀ r, r ∈ S.set i q → r.ok := by
  intro r hr
  rcases List.mem_or_eq_of_mem_set hr with h1 | h1
  · exact h r h1
  · rw [h1]; exact hq

/-- What first leaves behind. -/
theorem SlabRaw.first {w : World} {p b : Nat} {S : List Pg} (h : SlabRaw w p b S) {i k : Nat} (hi : i < S.length) (hk : k < 64) (n : Int) :
    SlabRaw ((w.setCell ⟨b, i * 66 + 1 + k, none⟩ (.bool true)).setCell ⟨b, i * 66 + 65, none⟩ (.int .i64 n)) p b (S.set i ⟨S[i].cls, upd S[i].tk k true, n⟩) := by
  have h1 := h.set_tk hi hk true
  have h2 := h1.set_us (i := i) (by rw [List.length_set]; exact hi) n
  simpa [List.set_set] using h2

theorem drewN_slab {w : World} {p b : Nat} {S : List Pg} (h : SlabRaw w p b S) (n : Nat) : SlabRaw (w.drewN n) p b S := ⟨h.hd, h.row, h.len⟩

theorem getD_of {S : List Pg} {i : Nat} (hi : i < S.length) : S.getD i Pg.new = S[i] := by simp [List.getD, hi]

theorem find_some {f : Pg → Bool} {S : List Pg} {k : Nat} (hk : k < S.length) (h1 : f S[k] = true) (h2 : ∀ j (hj : j < k), f (S[j]'(by omega)) = false) : S.findIdx? f = some k := by
  rw [List.findIdx?_eq_some_iff_getElem]
  exact ⟨hk, h1, fun j hj => by simpa using h2 j hj⟩
theorem find_none {f : Pg → Bool} {S : List Pg} (h : ∀ j (hj : j < S.length), f S[j] = false) : S.findIdx? f = none := by
  rw [List.findIdx?_eq_none_iff]
  intro x hx
  obtain ⟨j, hj, rfl⟩ := List.mem_iff_getElem.1 hx
  exact h j hj

theorem take_slot {S : List Pg} {c : Int} {i : Nat} (hc : inCls c = true) (h : slot S c = some i) :
    takeS S c = S.set i ⟨c, upd (S.getD i Pg.new).tk (freeIn (S.getD i Pg.new).tk) true, (S.getD i Pg.new).us + 1⟩ ∧
    takeN S c = 64 * (i : Int) + (freeIn (S.getD i Pg.new).tk : Int) ∧ takeE S c = 0 := by
  unfold takeS takeN takeE
  rw [if_pos hc, if_pos hc, if_pos hc, h]
  exact ⟨rfl, rfl, rfl⟩
theorem take_full {S : List Pg} {c : Int} (hc : inCls c = true) (h : slot S c = none) : takeS S c = S ∧ takeN S c = 0 ∧ takeE S c = 7 := by
  unfold takeS takeN takeE
  rw [if_pos hc, if_pos hc, if_pos hc, h]
  exact ⟨rfl, rfl, rfl⟩

def TakePost (w : World) (p b : Nat) (S : List Pg) (c : Int) (e : Ending) (w' : World) : Prop :=
  e = .returned (.tuple #[.int .i64 (takeN S c), .int .i64 (takeE S c)]) ∧ SlabAt w' p b (takeS S c) ∧ Fr (One b) w w'

/-- The end of the first way: page k is of class c, and has a free chunk. -/
theorem take_end1 {w : World} {p b : Nat} {S : List Pg} {c : Int} {k nd : Nat} (h : SlabAt w p b S) (h0 : 0 ≤ c) (h6 : c < 6) (hk : k < S.length)
    (h1 : fits1 c S[k] = true) (h2 : ∀ j (hj : j < k), fits1 c (S[j]'(by omega)) = false) :
    TakePost w p b S c (.returned (.tuple #[.int .i64 (64 * (k : Int) + (freeIn S[k].tk : Int)), .int .i64 0]))
      (((w.drewN nd).setCell ⟨b, k * 66 + 1 + freeIn S[k].tk, none⟩ (.bool true)).setCell ⟨b, k * 66 + 65, none⟩ (.int .i64 (S[k].us + 1))) := by
  have hs : slot S c = some k := by unfold slot; rw [find_some hk h1 h2]; rfl
  obtain ⟨t1, t2, t3⟩ := take_slot (by simp [inCls, h0, h6]) hs
  rw [getD_of hk] at t1 t2
  have hh : S[k].cls = c ∧ S[k].us < chunksOf c := by simpa [fits1] using h1
  have hu : S[k].us < chunksOf S[k].cls := by rw [hh.1]; exact hh.2
  have hc0 : 0 ≤ S[k].cls := by rw [hh.1]; exact h0
  have hp := chunksOf_pos c h0 h6
  obtain ⟨⟨g1, _, _⟩, _⟩ := (ok_of_mem h.ok hk).free hc0 hu
  rw [hh.1] at g1
  refine ⟨by rw [t2, t3], ?_, ?_⟩
  · rw [t1]
    have := (drewN_slab h.toSlabRaw nd).first hk (k := freeIn S[k].tk) (by omega) (S[k].us + 1)
    rw [hh.1] at this
    refine this.at_ (set_ok h.ok k ?_)
    have := (ok_of_mem h.ok hk).take hc0 hu
    rw [hh.1] at this
    exact this
  · exact (((Fr.refl _ _).drewN nd).set1 _).set1 _

/-- The end of the second and third way: page k is empty, and is given to class c. -/
theorem take_end2 {w : World} {p b : Nat} {S : List Pg} {c : Int} {k nd : Nat} (h : SlabAt w p b S) (h0 : 0 ≤ c) (h6 : c < 6) (hk : k < S.length)
    (hs : slot S c = some k) (hu : S[k].us = 0) :
    TakePost w p b S c (.returned (.tuple #[.int .i64 (64 * (k : Int) + (0 : Nat)), .int .i64 0]))
      ((((w.drewN nd).setCell ⟨b, k * 66, none⟩ (.int .i64 c)).setCell ⟨b, k * 66 + 1 + 0, none⟩ (.bool true)).setCell ⟨b, k * 66 + 65, none⟩ (.int .i64 (S[k].us + 1))) := by
  obtain ⟨t1, t2, t3⟩ := take_slot (by simp [inCls, h0, h6]) hs
  rw [getD_of hk] at t1 t2
  have hok := (ok_of_mem h.ok hk)
  have hf : freeIn S[k].tk = 0 := freeIn_of _ 0 (by omega) (hok.empty hu 0) (fun j hj => by omega)
  rw [hf] at t1 t2
  have hp := chunksOf_pos c h0 h6
  refine ⟨by rw [t2, t3], ?_, ?_⟩
  · rw [t1]
    have h1 := (drewN_slab h.toSlabRaw nd).set_cls hk c
    have h2 := h1.first (i := k) (by rw [List.length_set]; exact hk) (k := 0) (by omega) (S[k].us + 1)
    simp only [List.getElem_set_self, List.set_set] at h2
    refine h2.at_ (set_ok h.ok k ?_)
    have h3 := (hok.turn hu c h0 h6)
    have h4 := h3.take h0 (by show S[k].us < chunksOf c; omega)
    simp only [hf] at h4
    exact h4
  · exact ((((Fr.refl _ _).drewN nd).set1 _).set1 _).set1 _

theorem slot2 {S : List Pg} {c : Int} {k : Nat} (hk : k < S.length) (h1 : ∀ j (hj : j < S.length), fits1 c S[j] = false) (h2 : fits2 S[k] = true) (h3 : ∀ j (hj : j < k), fits2 (S[j]'(by omega)) = false) : slot S c = some k := by
  unfold slot; rw [find_none h1, find_some hk h2 h3]; rfl
theorem slot3 {S : List Pg} {c : Int} {k : Nat} (hk : k < S.length) (h1 : ∀ j (hj : j < S.length), fits1 c S[j] = false) (h2 : ∀ j (hj : j < S.length), fits2 S[j] = false) (h3 : fits3 S[k] = true) (h4 : ∀ j (hj : j < k), fits3 (S[j]'(by omega)) = false) : slot S c = some k := by
  unfold slot; rw [find_none h1, find_none h2, find_some hk h3 h4]; rfl
theorem slot0 {S : List Pg} {c : Int} (h1 : ∀ j (hj : j < S.length), fits1 c S[j] = false) (h2 : ∀ j (hj : j < S.length), fits2 S[j] = false) (h3 : ∀ j (hj : j < S.length), fits3 S[j] = false) : slot S c = none := by
  unfold slot; rw [find_none h1, find_none h2, find_none h3]; rfl

/-- No page among the first k fits. -/
def NoFit (f : Pg → Bool) (S : List Pg) (k : Nat) : Prop := ∀ j, j < k → ∀ hj : j < S.length, f (S[j]'hj) = false
theorem NoFit.zero (f : Pg → Bool) (S : List Pg) : NoFit f S 0 := fun _ hj => absurd hj (Nat.not_lt_zero _)
theorem NoFit.succ {f : Pg → Bool} {S : List Pg} {k : Nat} (h : NoFit f S k) (hk : k < S.length) (h1 : f S[k] = false) : NoFit f S (k + 1) := by
  intro j hj hjl
  by_cases e : j = k
  · subst e; exact h1
  · exact h j (by omega) hjl
theorem NoFit.all' {f : Pg → Bool} {S : List Pg} {k : Nat} (h : NoFit f S k) (_ : k ≤ S.length) (hk : S.length ≤ k) : ∀ j (hj : j < S.length), f S[j] = false := fun j hj => h j (by omega) hj
theorem first_page {w : World} {p b : Nat} {S : List Pg} {k nd : Nat} {c : Int} (h : SlabAt w p b S) (hk : k < S.length) : PgAt ((w.drewN nd).setCell ⟨b, k * 66, none⟩ (.int .i64 c)) b (k * 66) ⟨c, S[k].tk, S[k].us⟩ := by
  have h1 := ((drewN_slab h.toSlabRaw nd).set_cls hk c).page (i := k) (by rw [List.length_set]; exact hk)
  simpa using h1
theorem take_end0 {w : World} {p b : Nat} {S : List Pg} {c : Int} {nd : Nat} (h : SlabAt w p b S) (h0 : 0 ≤ c) (h6 : c < 6) (hs : slot S c = none) :
    TakePost w p b S c (.returned (.tuple #[.int .i64 0, .int .i64 7])) (w.drewN nd) := by
  obtain ⟨t1, t2, t3⟩ := take_full (by simp [inCls, h0, h6]) hs
  exact ⟨by rw [t2, t3], by rw [t1]; exact (drewN_slab h.toSlabRaw nd).at_ h.ok, (Fr.refl _ _).drewN nd⟩

theorem fits1_of {c : Int} {q : Pg} (h1 : (q.cls == c) = true) (h2 : q.us < chunksOf c) : fits1 c q = true := by simp [fits1, h1, h2]
theorem fits1_no {c : Int} {q : Pg} (h1 : (q.cls == c) = false) : fits1 c q = false := by simp [fits1, h1]
theorem fits1_no' {c : Int} {q : Pg} (h2 : ¬ q.us < chunksOf c) : fits1 c q = false := by simp [fits1, h2]

set_option maxHeartbeats 1600000 in
set_option maxRecDepth 100000 in
theorem take_in (w : World) (p b : Nat) (S : List Pg) (c : Int) (h : SlabAt w p b S) (h0 : 0 ≤ c) (h6 : c < 6) :
    Calls Try.prog 27 #[.pointer (some ⟨p, 0, none⟩), .int .i64 c] w (TakePost w p b S c) := by
  have hp := h.head
  have hlen := h.len
  have hcp := chunkOf_pos c h0 h6
  have hcs := chunksOf_pos c h0 h6
  have hc0 : (chunkOf c == 0) = false := by rw [beq_eq_false_iff_ne]; omega
  have H := Lib.hid h
  clear h
  go_enter Try.func27, Try.ntmps27
  go_wp2_with (go_at_call 39; refine (chunk_in _ _ h0 h6).mono ?_; rintro e w' ⟨rfl, rfl⟩)
  go_loopw [20] (fun i wr => ∃ (k nd : Nat), k ≤ S.length ∧ i = .int .i64 k ∧ wr = w.drewN nd ∧ NoFit (fits1 c) S k) (fun i _ => S.length - (intOf i).toNat)
  case atStart => exact ⟨0, 0, Nat.zero_le _, rfl, rfl, NoFit.zero _ _⟩
  case round =>
    obtain ⟨k, nd, hk, rfl, rfl, hno⟩ := hrel
    by_cases hlt : k < S.length
    · have hok := ok_of_mem H.out.ok hlt
      obtain ⟨c1, f1, ct, ft, c2, f2⟩ := H.out.page hlt
      by_cases hA : (S[k].cls == c) = true
      · by_cases hB : S[k].us < chunksOf c
        · have hfit := Lib.hid (fits1_of hA hB)
          have hcl : S[k].cls = c := by simpa using hA
          have hfr := hok.free (by rw [hcl]; exact h0) (by rw [hcl]; exact hB)
          rw [hcl] at hfr
          have hend := Lib.hid fun nd => take_end1 (nd := nd) H.out h0 h6 hlt hfit.out (fun j hj => hno j hj (by omega))
          have hpg := Lib.hid (H.out.page hlt)
          have HF := Lib.hid hfr
          have hcl' := Lib.hid hcl
          clear hcl hfr hno ct ft f1 f2 hok
          go_wp2_with fail
          go_quiet ((go_at_call 40; first | exact quietL (chunks_in _ _ h0 h6) | exact quietL' (chunks_in _ _ h0 h6)))
          go_wp2_with fail
          refine (first_ok b (k * 66) S[k] (freeIn S[k].tk) _ (by rw [hcl'.out]; exact h0) (by rw [hcl'.out]; exact h6) (by have := HF.out.2; omega) (by rw [hcl'.out]; exact HF.out.1.1) HF.out.1.2.1 HF.out.1.2.2 (hpg.out.drewN _)).mono ?_
          rintro e w' ⟨rfl, rfl⟩
          have hfr := HF.out.1.1
          go_wp2_with fail
          go_ret2
          exact hend.out _
        · have hno' := hno.succ hlt (fits1_no' hB)
          clear hno ct ft f1 f2 hok
          go_wp2_with fail
          go_quiet ((go_at_call 40; first | exact quietL (chunks_in _ _ h0 h6) | exact quietL' (chunks_in _ _ h0 h6)))
          go_wp2_with fail
          go_roundw
          case rel => exact ⟨k + 1, _, by omega, by go_num, rfl, hno'⟩
          case measure => simp [intOf]; omega
      · have hA' : (S[k].cls == c) = false := by simpa using hA
        have hno' := hno.succ hlt (fits1_no hA')
        clear hA hno ct ft f1 f2 hok
        go_wp2_with fail
        go_quiet (fail)
        go_wp2_with fail
        go_roundw
        case rel => exact ⟨k + 1, _, by omega, by go_num, rfl, hno'⟩
        case measure => simp [intOf]; omega
    · have hn1 := Lib.hid (hno.all' hk (by omega))
      clear hno
      go_wp2_with fail
      go_loopw [55] (fun i wr => ∃ (k nd : Nat), k ≤ S.length ∧ i = .int .i64 k ∧ wr = w.drewN nd ∧ NoFit fits2 S k) (fun i _ => S.length - (intOf i).toNat)
      case atStart => exact ⟨0, nd, Nat.zero_le _, rfl, rfl, NoFit.zero _ _⟩
      case round =>
        clear hlt hk
        obtain ⟨k, nd, hk, rfl, rfl, hno⟩ := hrel
        by_cases hlt : k < S.length
        · have hok := ok_of_mem H.out.ok hlt
          obtain ⟨c1, f1, ct, ft, c2, f2⟩ := H.out.page hlt
          by_cases hA : (S[k].cls == -1) = true
          · have hu : S[k].us = 0 := by
              rcases hok with hok | hok
              · exact hok.2.1
              · simp at hA; omega
            have hend := Lib.hid fun nd => take_end2 (nd := nd) H.out h0 h6 hlt (slot2 hlt hn1.out hA fun j hj => hno j hj (by omega)) hu
            have hpg := Lib.hid fun nd => first_page (nd := nd) (c := c) H.out hlt
            have he := Lib.hid (hok.empty hu)
            have hu' := Lib.hid hu
            clear hno ct ft f2 hok c2 hu
            go_wp2_with fail
            refine (first_ok b (k * 66) ⟨c, S[k].tk, S[k].us⟩ 0 _ h0 h6 (by show 0 ≤ S[k].us ∧ S[k].us < 64; rw [hu'.out]; omega) (by show ((0 : Nat) : Int) < chunksOf c; omega) (he.out 0) (fun j hj => absurd hj (Nat.not_lt_zero _)) (hpg.out _)).mono ?_
            rintro e w' ⟨rfl, rfl⟩
            go_wp2_with fail
            go_ret2
            exact hend.out _
          · have hA' : (S[k].cls == -1) = false := by simpa using hA
            have hno' := hno.succ hlt hA'
            clear hA hno ct ft f1 f2 hok
            go_wp2_with fail
            go_roundw
            case rel => exact ⟨k + 1, nd, by omega, by go_num, rfl, hno'⟩
            case measure => simp [intOf]; omega
        · have hn2 := Lib.hid (hno.all' hk (by omega))
          clear hno
          go_wp2_with fail
          go_loopw [84] (fun i wr => ∃ (k nd : Nat), k ≤ S.length ∧ i = .int .i64 k ∧ wr = w.drewN nd ∧ NoFit fits3 S k) (fun i _ => S.length - (intOf i).toNat)
          case atStart => exact ⟨0, nd, Nat.zero_le _, rfl, rfl, NoFit.zero _ _⟩
          case round =>
            clear hlt hk
            obtain ⟨k, nd, hk, rfl, rfl, hno⟩ := hrel
            by_cases hlt : k < S.length
            · have hok := ok_of_mem H.out.ok hlt
              obtain ⟨c1, f1, ct, ft, c2, f2⟩ := H.out.page hlt
              by_cases hA : (S[k].us == 0) = true
              · have hu : S[k].us = 0 := by simpa using hA
                have hend := Lib.hid fun nd => take_end2 (nd := nd) H.out h0 h6 hlt (slot3 hlt hn1.out hn2.out hA fun j hj => hno j hj (by omega)) hu
                have hpg := Lib.hid fun nd => first_page (nd := nd) (c := c) H.out hlt
                have he := Lib.hid (hok.empty hu)
                have hu' := Lib.hid hu
                clear hno ct ft f2 hok hu
                go_wp2_with fail
                refine (first_ok b (k * 66) ⟨c, S[k].tk, S[k].us⟩ 0 _ h0 h6 (by show 0 ≤ S[k].us ∧ S[k].us < 64; rw [hu'.out]; omega) (by show ((0 : Nat) : Int) < chunksOf c; omega) (he.out 0) (fun j hj => absurd hj (Nat.not_lt_zero _)) (hpg.out _)).mono ?_
                rintro e w' ⟨rfl, rfl⟩
                go_wp2_with fail
                go_ret2
                exact hend.out _
              · have hA' : (S[k].us == 0) = false := by simpa using hA
                have hno' := hno.succ hlt hA'
                clear hA hno ct ft f1 f2 hok
                go_wp2_with fail
                go_roundw
                case rel => exact ⟨k + 1, nd, by omega, by go_num, rfl, hno'⟩
                case measure => simp [intOf]; omega
            · have hn3 := hno.all' hk (by omega)
              have hend := Lib.hid fun nd => take_end0 (nd := nd) H.out h0 h6 (slot0 hn1.out hn2.out hn3)
              clear hno hn3
              go_wp2_with fail
              go_ret2
              exact hend.out _

end Go.Proofs.Ytpbbokpmlemboaa.Sl
