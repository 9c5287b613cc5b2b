/-
  tomb: a device and journals of the law's own: the calls as a law uses them.
-/
import Derived.Test.YtpdljgjofebgpaaTombE
import Derived.Test.YtpdljgjofebgpaaTombF
import Derived.Test.YtpdljgjofebgpaaTombM
namespace Go.Proofs.Ytpdljgjofebgpaa
open Go.RowKit

/-- A device with nothing armed, on, of n pages. -/
def CalmN (n : Nat) (D : Dv) : Prop := D.pg.length = n ∧ D.off = false ∧ D.arm ≤ 0
theorem CalmN.new (n : Nat) : CalmN n (Dv.new n) := ⟨by unfold Dv.new; simp, rfl, Int.le_refl 0⟩
theorem CalmN.spend {n : Nat} {D : Dv} (h : CalmN n D) : D.spend = D := spend_on h.2.1 h.2.2
theorem CalmN.like {n : Nat} {D D' : Dv} (h : CalmN n D) (l : LikeD D D') : CalmN n D' := ⟨by rw [l.pg]; exact h.1, by rw [l.off]; exact h.2.1, by rw [l.arm]; exact h.2.2⟩
theorem CalmN.change {n : Nat} {D : Dv} (h : CalmN n D) (i : Nat) (p : Pg) : CalmN n (D.change i p) := by
  refine ⟨by rw [change_len]; exact h.1, ?_⟩
  unfold Dv.change
  rw [h.spend, if_neg (by simp [h.2.1])]
  exact h.2
theorem CalmN.flush {n : Nat} {D : Dv} (h : CalmN n D) : CalmN n D.flush := by
  refine ⟨by rw [flush_len]; exact h.1, ?_⟩
  unfold Dv.flush
  rw [h.spend, if_neg (by simp [h.2.1])]
  exact h.2
theorem CalmN.now_change {n : Nat} {D : Dv} (h : CalmN n D) {i j : Nat} (p : Pg) (hi : i < n) : (D.change i p).now j = if j = i then p else D.now j := by
  have hl := h.1
  unfold Dv.change
  rw [h.spend, if_neg (by simp [h.2.1])]
  unfold Dv.put Dv.now
  simp only
  rw [List.getD_eq_getElem?_getD, List.getElem?_modify]
  by_cases hj : j = i
  · subst hj
    rw [if_pos rfl, List.getElem?_eq_getElem (by omega)]
    simp [Pc.now]
  · rw [if_neg hj]
    simp [Ne.symm hj, List.getD_eq_getElem?_getD]
theorem CalmN.now_flush {n : Nat} {D : Dv} (h : CalmN n D) (j : Nat) : D.flush.now j = D.now j := by
  unfold Dv.flush
  rw [h.spend, if_neg (by simp [h.2.1])]
  unfold Dv.sunk Dv.now
  simp only
  rw [List.getD_eq_getElem?_getD, List.getElem?_map, List.getD_eq_getElem?_getD]
  cases D.pg[j]? <;> simp [Pc.now]
theorem CalmN.loss_change {n : Nat} {D : Dv} (h : CalmN n D) (i : Nat) (p : Pg) : (D.change i p).loss = D.loss := by
  unfold Dv.change
  rw [h.spend, if_neg (by simp [h.2.1])]
  rfl
theorem CalmN.loss_flush {n : Nat} {D : Dv} (h : CalmN n D) : D.flush.loss = D.loss := by
  unfold Dv.flush
  rw [h.spend, if_neg (by simp [h.2.1])]
  rfl

/-- The device behind an Add that is done. -/
def addD (D : Dv) (J : Jn) (l : List Mk) : Dv := (D.change (J.first + J.used) (.whole (pad (tpage J.gen l)))).flush
def addJ (J : Jn) (l : List Mk) : Jn := { J with used := J.used + 1, M := noteL J.M l }
theorem addTo_calm {n : Nat} {D : Dv} (h : CalmN n D) (J : Jn) (l : List Mk) : addTo D J l = (0, addD D J l, addJ J l) := by
  unfold addTo
  rw [if_neg (by rw [h.spend]; simp [h.2.1]), if_neg (by rw [(h.change _ _).spend]; simp [(h.change _ _).2.1])]
  rfl
theorem CalmN.addD {n : Nat} {D : Dv} (h : CalmN n D) (J : Jn) (l : List Mk) : CalmN n (addD D J l) := (h.change _ _).flush
theorem CalmN.now_addD {n : Nat} {D : Dv} (h : CalmN n D) (J : Jn) (l : List Mk) {j : Nat} (hi : J.first + J.used < n) : (Go.Proofs.Ytpdljgjofebgpaa.addD D J l).now j = if j = J.first + J.used then .whole (pad (tpage J.gen l)) else D.now j := by
  unfold Go.Proofs.Ytpdljgjofebgpaa.addD
  rw [(h.change _ _).now_flush, h.now_change _ hi]
theorem CalmN.loss_addD {n : Nat} {D : Dv} (h : CalmN n D) (J : Jn) (l : List Mk) : (Go.Proofs.Ytpdljgjofebgpaa.addD D J l).loss = D.loss := by
  unfold Go.Proofs.Ytpdljgjofebgpaa.addD
  rw [(h.change _ _).loss_flush, h.loss_change]

/-- A device of the law's own, and a journal on it. -/
structure JL (W w : World) (q : Nat) (K : Nat → Prop) (D : Dv) (j m : Nat) (J : Jn) : Prop where
  dl : DL W w q K (fun k => k = j ∨ k = m) D
  ji : JIs w q j m J
  kj : ¬ K j
  km : ¬ K m
  wj : W.heap.size ≤ j
  wm : W.heap.size ≤ m
  lt : J.first + J.pages ≤ D.pg.length
  le : D.pg.length ≤ 4096
  us : J.used ≤ J.pages

theorem openL_le {now : Nat → Pg} {first gen : Nat} : ∀ (n u : Nat) (M : List Mk), (openL now first gen n u M).1 ≤ u + n
  | 0, u, M => Nat.le_refl _
  | n + 1, u, M => by
    unfold openL
    cases h : now (first + u) with
    | blank => simp only; omega
    | torn => simp only; have := openL_le (now := now) (first := first) (gen := gen) n (u + 1) M; omega
    | whole b =>
      simp only
      cases h2 : tread gen b with
      | none => simp only; omega
      | some l => simp only; have := openL_le (now := now) (first := first) (gen := gen) n (u + 1) (noteL M l); omega

section
variable {W w : World} {q : Nat} {K : Nat → Prop} {D : Dv} {j m : Nat} {J : Jn}

theorem JL.fr (a : JL W w q K D j m J) : Fr Nob W w := a.dl.fr
theorem JL.nob {w' : World} (a : JL W w q K D j m J) (f : Fr Nob w w') : JL W w' q K D j m J :=
  ⟨a.dl.nob f, a.ji.nob f, a.kj, a.km, a.wj, a.wm, a.lt, a.le, a.us⟩

/-- What Open reads of a device. -/
def opened (D : Dv) (first pages gen : Nat) : Jn := ⟨first, pages, gen, (openL D.now first gen pages 0 []).1, D.loss, (openL D.now first gen pages 0 []).2⟩

theorem JL.opened (h : DL W w q K Nob D) (ho : D.off = false) {first pages gen : Nat} (h1 : 1 ≤ pages) (hf : first + pages ≤ D.pg.length) (hl : D.pg.length ≤ 4096) :
    Calls Try.prog 49 #[.pointer (some ⟨q, 0, none⟩), .int .i64 first, .int .i64 pages, .int .u64 gen] w fun e w' => ∃ j, e = .returned (.tuple #[.pointer (some ⟨j, 0, none⟩), .int .i64 0]) ∧ ∃ m D',
      JL W w' q K D' j m (opened D first pages gen) ∧ LikeD D D' ∧ Fr K w w' := by
  have hk := h.klt
  have hw := h.wle
  refine (open_eq h ho h1 hf hl).mono ?_
  rintro e w' ⟨j, rfl, m, o⟩
  obtain ⟨D', d, lk⟩ := o.dl
  have kk := o.kj hk
  refine ⟨j, rfl, m, D', ⟨d.less fun k hk => ?_, o.ji, kk.1, kk.2, Nat.le_trans hw o.jl, Nat.le_trans hw o.ml, by rw [lk.pg]; exact hf, by rw [lk.pg]; exact hl, ?_⟩, lk, o.fr⟩
  · rcases hk with h | h
    · exact .inr (.inl h)
    · exact .inr (.inr h)
  · have := openL_le (now := D.now) (first := first) (gen := gen) pages 0 []
    show (openL D.now first gen pages 0 []).1 ≤ pages
    omega

/-- A second journal on the device. -/
theorem JL.open2 (a : JL W w q K D j m J) (ho : D.off = false) {first pages gen : Nat} (h1 : 1 ≤ pages) (hf : first + pages ≤ D.pg.length) :
    Calls Try.prog 49 #[.pointer (some ⟨q, 0, none⟩), .int .i64 first, .int .i64 pages, .int .u64 gen] w fun e w' => ∃ k, e = .returned (.tuple #[.pointer (some ⟨k, 0, none⟩), .int .i64 0]) ∧ ∃ n D',
      JL W w' q K D' k n (Go.Proofs.Ytpdljgjofebgpaa.opened D first pages gen) ∧ JL W w' q K D' j m J ∧ LikeD D D' ∧ Fr K w w' ∧ k ≠ j ∧ k ≠ m ∧ n ≠ j ∧ n ≠ m := by
  have hk := a.dl.klt
  have hw := a.dl.wle
  refine (open_eq a.dl ho h1 hf a.le).mono ?_
  rintro e w' ⟨k, rfl, n, o⟩
  obtain ⟨D', d, lk⟩ := o.dl
  have kk := o.kj hk
  have hj := lt_of_block a.ji.top
  have hm := a.ji.map.lt
  have h1 := o.jl
  have h2 := o.ml
  refine ⟨k, rfl, n, D', ⟨d.less fun i hi => ?_, o.ji, kk.1, kk.2, Nat.le_trans hw o.jl, Nat.le_trans hw o.ml, by rw [lk.pg]; exact hf, by rw [lk.pg]; exact a.le, ?_⟩,
    ⟨d.less fun i hi => .inl hi, a.ji.keep o.fr a.kj a.km, a.kj, a.km, a.wj, a.wm, by rw [lk.pg]; exact a.lt, by rw [lk.pg]; exact a.le, a.us⟩, lk, o.fr, by omega, by omega, by omega, by omega⟩
  · rcases hi with h | h
    · exact .inr (.inl h)
    · exact .inr (.inr h)
  · have := openL_le (now := D.now) (first := first) (gen := gen) pages 0 []
    show (openL D.now first gen pages 0 []).1 ≤ pages
    omega

theorem JL.add (a : JL W w q K D j m J) {v : Value} {l : List Mk} (hv : RdM w v l) (h0 : 0 < l.length) (hl : l.length ≤ 23) (hx : J.loss = D.loss) (hu : J.used < J.pages) (hvk : ∀ k, v.ownBlock = some k → ¬ K k ∧ k ≠ j ∧ k ≠ m) :
    Calls Try.prog 50 #[.pointer (some ⟨j, 0, none⟩), v] w fun e w' => e = .returned (.int .i64 (addTo D J l).1) ∧ JL W w' q K (addTo D J l).2.1 j m (addTo D J l).2.2 ∧ Fr (fun k => K k ∨ k = j ∨ k = m) w w' := by
  refine (add_eq a.dl a.ji hv h0 hl hx a.lt a.le hu ⟨.inl rfl, .inr rfl⟩ ⟨a.kj, a.km⟩ ⟨a.wj, a.wm⟩ hvk).mono ?_
  rintro e w' ⟨rfl, r⟩
  have hp : (addTo D J l).2.1.pg.length = D.pg.length ∧ (addTo D J l).2.2.first = J.first ∧ (addTo D J l).2.2.pages = J.pages ∧ (addTo D J l).2.2.used ≤ J.used + 1 := by
    unfold addTo
    split
    · exact ⟨change_len _ _ _, rfl, rfl, by simp⟩
    · split
      · exact ⟨by rw [flush_len, change_len], rfl, rfl, Nat.le_refl _⟩
      · exact ⟨by rw [flush_len, change_len], rfl, rfl, Nat.le_refl _⟩
  exact ⟨rfl, ⟨r.dl, r.ji, a.kj, a.km, a.wj, a.wm, by rw [hp.1, hp.2.1, hp.2.2.1]; exact a.lt, by rw [hp.1]; exact a.le, by rw [hp.2.2.1]; omega⟩, r.fr⟩

theorem JL.begin (a : JL W w q K D j m J) (g : Nat) :
    Calls Try.prog 53 #[.pointer (some ⟨j, 0, none⟩), .int .u64 g] w fun e w' => e = .returned (.tuple #[]) ∧ ∃ m', JL W w' q K D j m' { J with gen := g, used := 0, M := [] } ∧ Fr (One j) w w' ∧ w.heap.size ≤ m' := by
  have hk := a.dl.klt
  have hw := a.dl.wle
  refine (begin_eq a.ji g).mono ?_
  rintro e w' ⟨rfl, ji, f⟩
  have fw := a.dl.fr.trans f fun i hi (e : i = j) => by have := a.wj; omega
  have d := a.dl.keep' f fw a.kj (.inl rfl)
  refine ⟨rfl, w.heap.size, ⟨?_, ji, a.kj, fun h => by have := hk _ h; omega, a.wj, hw, a.lt, a.le, Nat.zero_le _⟩, f, Nat.le_refl _⟩
  obtain ⟨P, s, f0, h1, h2, h3⟩ := a.dl
  obtain ⟨P2, s2, f2, k1, k2, k3⟩ := d
  refine ⟨P, s.keep f (fun k hk e => a.kj (by rw [← show k = j from e]; exact hk)) (fun k hk e => h3 k hk (.inl e)), fw, h1, fun k hk => ?_, fun k hp hk => ?_⟩
  · rcases hk with rfl | rfl
    · exact lt_of_block ji.top
    · exact ji.map.lt
  · rcases hk with rfl | rfl
    · exact h3 _ hp (.inl rfl)
    · have := s.plt _ hp
      omega

theorem JL.gone (a : JL W w q K D j m J) (k v : Nat) (b : Bool) (hb : goneB J.M k v = b) :
    Calls Try.prog 54 #[.pointer (some ⟨j, 0, none⟩), .int .u64 k, .int .u64 v] w fun e w' => e = .returned (.bool b) ∧ w = w' := by
  rw [← hb]
  exact gone_eq a.ji k v
theorem JL.room (a : JL W w q K D j m J) (r : Int) (hr : r = (J.pages : Int) - J.used) :
    Calls Try.prog 51 #[.pointer (some ⟨j, 0, none⟩)] w fun e w' => e = .returned (.int .i64 r) ∧ Fr Nob w w' :=
  room_eq a.ji a.us (by have := a.lt; have := a.le; omega) r hr
theorem JL.marks (a : JL W w q K D j m J) (hl : J.M.length ≤ 1) :
    Calls Try.prog 52 #[.pointer (some ⟨j, 0, none⟩)] w fun e w' => ∃ v, e = .returned v ∧ w'.ownsRow w.heap.size 80 2 v J.M.length (mksV J.M) ∧ Fr Nob w w' := marks_eq a.ji hl
end

end Go.Proofs.Ytpdljgjofebgpaa
