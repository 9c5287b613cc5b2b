/-
  flash: the contracts as a law uses them: a device that the law itself has made.
-/
import Derived.Test.YtpdljgjofebgpaaFlashK
namespace Go.Proofs.Ytpdljgjofebgpaa
open Go.RowKit

/-- A device of the call's own: all that turned since W is new; N: blocks that no page lies in. -/
def DL (W w : World) (q : Nat) (K N : Nat → Prop) (D : Dv) : Prop :=
  ∃ P, DevAt w q K P D ∧ Fr Nob W w ∧ (∀ k, K k → W.heap.size ≤ k) ∧ (∀ k, N k → k < w.heap.size) ∧ ∀ k, P k → ¬ N k

theorem DL.fr {W w : World} {q : Nat} {K N : Nat → Prop} {D : Dv} (h : DL W w q K N D) : Fr Nob W w := by
  obtain ⟨P, _, f, _⟩ := h
  exact f
theorem DL.klt {W w : World} {q : Nat} {K N : Nat → Prop} {D : Dv} (h : DL W w q K N D) : ∀ k, K k → k < w.heap.size := by
  obtain ⟨P, s, _⟩ := h
  exact s.lt
theorem DL.kle {W w : World} {q : Nat} {K N : Nat → Prop} {D : Dv} (h : DL W w q K N D) : ∀ k, K k → W.heap.size ≤ k := by
  obtain ⟨P, s, _, h, _⟩ := h
  exact h
theorem DL.to {W w w' : World} {q : Nat} {K N P : Nat → Prop} {D' : Dv} (f : Fr Nob W w) (hk : ∀ k, K k → W.heap.size ≤ k) (hn : ∀ k, N k → k < w.heap.size) (hp : ∀ k, P k → ¬ N k) (t : DTo w q K P w' D') : DL W w' q K N D' ∧ Fr K w w' := by
  obtain ⟨P', s, f', a, b⟩ := t
  refine ⟨⟨P', s, f.trans f' fun k h1 h2 => absurd (hk k h2) (by omega), hk, fun k h => Nat.lt_of_lt_of_le (hn k h) f'.size, fun k h1 h2 => ?_⟩, f'⟩
  rcases b k h1 with h | h
  · exact hp k h h2
  · have := hn k h2
    omega
theorem DL.keep {W w w' : World} {q : Nat} {K N T : Nat → Prop} {D : Dv} (h : DL W w q K N D) (f : Fr T w w') (fw : Fr Nob W w') (hT : ∀ k, T k → k < w.heap.size → N k ∧ ¬ K k) : DL W w' q K N D := by
  obtain ⟨P, s, f0, hk, hn, hp⟩ := h
  exact ⟨P, s.keep f (fun k h1 h2 => (hT k h2 (s.lt k h1)).2 h1) (fun k h1 h2 => hp k h1 (hT k h2 (s.plt k h1)).1), fw, hk, fun k h => Nat.lt_of_lt_of_le (hn k h) f.size, hp⟩
theorem DL.nob {W w w' : World} {q : Nat} {K N : Nat → Prop} {D : Dv} (h : DL W w q K N D) (f : Fr Nob w w') : DL W w' q K N D := h.keep f (h.fr.trans' f) fun _ h => h.elim
/-- New blocks that pages keep off. -/
theorem DL.more {W w w' : World} {q : Nat} {K N N' : Nat → Prop} {D : Dv} (h : DL W w q K N D) (f : Fr Nob w w') (hN : ∀ k, N' k → N k ∨ (w.heap.size ≤ k ∧ k < w'.heap.size)) : DL W w' q K N' D := by
  have h' := h.nob f
  obtain ⟨P, s, f0, hk, hn, hp⟩ := h
  obtain ⟨P2, s2, f2, hk2, hn2, hp2⟩ := h'
  refine ⟨P, s.nob f, f2, hk, fun k h => ?_, fun k h1 h2 => ?_⟩
  · rcases hN k h with h | h
    · exact hn2 k h
    · exact h.2
  · rcases hN k h2 with h | h
    · exact hp k h1 h
    · have := s.plt k h1
      omega

theorem DL.new {W w : World} (f : Fr Nob W w) {n : Nat} (h0 : 1 ≤ n) (h1 : n ≤ 4096) :
    Calls Try.prog 24 #[.int .i64 n] w fun e w' => ∃ q K, e = .returned (.tuple #[.pointer (some ⟨q, 0, none⟩), .int .i64 0]) ∧ DL W w' q K Nob (Dv.new n) ∧ Fr Nob w w' ∧ ∀ k, K k → w.heap.size ≤ k := by
  refine (new_eq h0 h1).mono ?_
  rintro e w' ⟨q, K, rfl, s, f', hk⟩
  exact ⟨q, K, rfl, ⟨_, s, f.trans' f', fun k h => Nat.le_trans f.size (hk k h), fun _ h => h.elim, fun _ h => h.elim⟩, f', hk⟩

section
variable {W w : World} {q : Nat} {K N : Nat → Prop} {D : Dv}

theorem DL.write (h : DL W w q K N D) {i : Nat} (hi : i < D.pg.length) {v : Value} {bs : List UInt8} (hr : RdB w v bs) (hn : bs.length ≤ 384) (b : Bool) (hb : D.spend.off = b) :
    Calls Try.prog 33 #[.pointer (some ⟨q, 0, none⟩), .int .i64 i, v] w fun e w' => e = .returned (.int .i64 (errOff b)) ∧ DL W w' q K N (D.change i (.whole (pad bs))) ∧ Fr K w w' := by
  obtain ⟨P, s, f, hk, hn', hp⟩ := h
  refine (write_eq s hi hr hn b hb).mono ?_
  rintro e w' ⟨rfl, t⟩
  exact ⟨rfl, DL.to f hk hn' hp t⟩
theorem DL.write_bad (h : DL W w q K N D) {x : Int} {v : Value} {bs : List UInt8} (hr : RdB w v bs) (hn : bs.length ≤ 1000000) (hx : (x < 0 ∨ (D.pg.length : Int) ≤ x) ∨ 384 < bs.length) :
    Calls Try.prog 33 #[.pointer (some ⟨q, 0, none⟩), .int .i64 x, v] w fun e w' => e = .returned (.int .i64 1) ∧ w = w' := by
  obtain ⟨P, s, f, hk, hn', hp⟩ := h
  exact Go.Proofs.Ytpdljgjofebgpaa.write_bad s hr hn hx
theorem DL.erase (h : DL W w q K N D) {i : Nat} (hi : i < D.pg.length) (b : Bool) (hb : D.spend.off = b) :
    Calls Try.prog 74 #[.pointer (some ⟨q, 0, none⟩), .int .i64 i] w fun e w' => e = .returned (.int .i64 (errOff b)) ∧ DL W w' q K N (D.change i .blank) ∧ Fr K w w' := by
  obtain ⟨P, s, f, hk, hn', hp⟩ := h
  refine (erase_eq s hi b hb).mono ?_
  rintro e w' ⟨rfl, t⟩
  exact ⟨rfl, DL.to f hk hn' hp t⟩
theorem DL.erase_bad (h : DL W w q K N D) {x : Int} (hx : x < 0 ∨ (D.pg.length : Int) ≤ x) :
    Calls Try.prog 74 #[.pointer (some ⟨q, 0, none⟩), .int .i64 x] w fun e w' => e = .returned (.int .i64 1) ∧ w = w' := by
  obtain ⟨P, s, f, hk, hn', hp⟩ := h
  exact Go.Proofs.Ytpdljgjofebgpaa.erase_bad s hx
theorem DL.flush (h : DL W w q K N D) (b : Bool) (hb : D.spend.off = b) :
    Calls Try.prog 36 #[.pointer (some ⟨q, 0, none⟩)] w fun e w' => e = .returned (.int .i64 (errOff b)) ∧ DL W w' q K N D.flush ∧ Fr K w w' := by
  obtain ⟨P, s, f, hk, hn', hp⟩ := h
  refine (flush_eq s b hb).mono ?_
  rintro e w' ⟨rfl, t⟩
  exact ⟨rfl, DL.to f hk hn' hp t⟩
theorem DL.arm (h : DL W w q K N D) {x : Int} (hx : (Lit.int .i64 x).wf = true) :
    Calls Try.prog 37 #[.pointer (some ⟨q, 0, none⟩), .int .i64 x] w fun e w' => e = .returned (.tuple #[]) ∧ DL W w' q K N (D.armed x) ∧ Fr K w w' := by
  obtain ⟨P, s, f, hk, hn', hp⟩ := h
  refine (arm_eq s hx).mono ?_
  rintro e w' ⟨rfl, t⟩
  exact ⟨rfl, DL.to f hk hn' hp t⟩
theorem DL.crash (h : DL W w q K N D) {v : Value} {picks : List UInt8} (hr : RdB w v picks) (hn : picks.length ≤ 9223372036854775807) (hv : ∀ k, v.ownBlock = some k → ¬ K k) :
    Calls Try.prog 43 #[.pointer (some ⟨q, 0, none⟩), v] w fun e w' => e = .returned (.tuple #[]) ∧ DL W w' q K N (D.crash picks) ∧ Fr K w w' := by
  obtain ⟨P, s, f, hk, hn', hp⟩ := h
  refine (crash_eq s hr hn hv).mono ?_
  rintro e w' ⟨rfl, t⟩
  exact ⟨rfl, DL.to f hk hn' hp t⟩
theorem DL.on (h : DL W w q K N D) :
    Calls Try.prog 42 #[.pointer (some ⟨q, 0, none⟩)] w fun e w' => e = .returned (.tuple #[]) ∧ DL W w' q K N D.on ∧ Fr K w w' := by
  obtain ⟨P, s, f, hk, hn', hp⟩ := h
  refine (on_eq s).mono ?_
  rintro e w' ⟨rfl, t⟩
  exact ⟨rfl, DL.to f hk hn' hp t⟩
theorem DL.losses (h : DL W w q K N D) :
    Calls Try.prog 39 #[.pointer (some ⟨q, 0, none⟩)] w fun e w' => e = .returned (.int .i64 D.loss) ∧ w = w' := by
  obtain ⟨P, s, f, hk, hn', hp⟩ := h
  exact losses_eq s
theorem DL.power (h : DL W w q K N D) :
    Calls Try.prog 38 #[.pointer (some ⟨q, 0, none⟩)] w fun e w' => e = .returned (.bool (!D.off)) ∧ w = w' := by
  obtain ⟨P, s, f, hk, hn', hp⟩ := h
  exact power_eq s
theorem DL.pages (h : DL W w q K N D) :
    Calls Try.prog 61 #[.pointer (some ⟨q, 0, none⟩)] w fun e w' => e = .returned (.int .i64 D.pg.length) ∧ w = w' := by
  obtain ⟨P, s, f, hk, hn', hp⟩ := h
  exact pages_eq s
theorem DL.waiting (h : DL W w q K N D) :
    Calls Try.prog 44 #[.pointer (some ⟨q, 0, none⟩)] w fun e w' => ∃ v, e = .returned v ∧ w'.ownsRow w.heap.size 3 1 v (waits D.pg).length (natsV (waits D.pg)) ∧ Fr Nob w w' := by
  obtain ⟨P, s, f, hk, hn', hp⟩ := h
  exact waiting_eq s
theorem DL.read_bad (h : DL W w q K N D) {x : Int} (hx : x < 0 ∨ (D.pg.length : Int) ≤ x) :
    Calls Try.prog 32 #[.pointer (some ⟨q, 0, none⟩), .int .i64 x] w fun e w' => e = .returned (.tuple #[.slice none 0 0, .int .i64 1]) ∧ w = w' := by
  obtain ⟨P, s, f, hk, hn', hp⟩ := h
  exact Go.Proofs.Ytpdljgjofebgpaa.read_bad s hx
theorem DL.read_off (h : DL W w q K N D) {i : Nat} (hi : i < D.pg.length) (ho : D.off = true) :
    Calls Try.prog 32 #[.pointer (some ⟨q, 0, none⟩), .int .i64 i] w fun e w' => e = .returned (.tuple #[.slice none 0 0, .int .i64 4]) ∧ w = w' := by
  obtain ⟨P, s, f, hk, hn', hp⟩ := h
  exact Go.Proofs.Ytpdljgjofebgpaa.read_off s hi ho
theorem DL.read_blank (h : DL W w q K N D) {i : Nat} (hi : i < D.pg.length) (ho : D.off = false) (hp : D.now i = .blank) :
    Calls Try.prog 32 #[.pointer (some ⟨q, 0, none⟩), .int .i64 i] w fun e w' => e = .returned (.tuple #[.slice none 0 0, .int .i64 5]) ∧ DL W w' q K N D.read ∧ Fr K w w' := by
  obtain ⟨P, s, f, hk, hn', hp'⟩ := h
  refine (read_eq s hi ho _ hp).mono ?_
  rintro e w' ⟨t, rfl⟩
  exact ⟨rfl, DL.to f hk hn' hp' t⟩
theorem DL.read_torn (h : DL W w q K N D) {i : Nat} (hi : i < D.pg.length) (ho : D.off = false) (hp : D.now i = .torn) :
    Calls Try.prog 32 #[.pointer (some ⟨q, 0, none⟩), .int .i64 i] w fun e w' => e = .returned (.tuple #[.slice none 0 0, .int .i64 6]) ∧ DL W w' q K N D.read ∧ Fr K w w' := by
  obtain ⟨P, s, f, hk, hn', hp'⟩ := h
  refine (read_eq s hi ho _ hp).mono ?_
  rintro e w' ⟨t, rfl⟩
  exact ⟨rfl, DL.to f hk hn' hp' t⟩
theorem DL.read_whole (h : DL W w q K N D) {i : Nat} (hi : i < D.pg.length) (ho : D.off = false) {bs : List UInt8} (hp : D.now i = .whole bs) :
    Calls Try.prog 32 #[.pointer (some ⟨q, 0, none⟩), .int .i64 i] w fun e w' => ∃ v, e = .returned (.tuple #[v, .int .i64 0]) ∧ w'.ownsRow w.heap.size 5 1 v 384 (bytesV bs) ∧ bs.length = 384 ∧ DL W w' q K N D.read ∧ Fr K w w' := by
  obtain ⟨P, s, f, hk, hn', hp'⟩ := h
  refine (read_eq s hi ho _ hp).mono ?_
  rintro e w' ⟨t, v, rfl, o, hl⟩
  rw [hl] at o
  exact ⟨v, rfl, o, hl, DL.to f hk hn' hp' t⟩
theorem DL.copy (h : DL W w q K N D) :
    Calls Try.prog 35 #[.pointer (some ⟨q, 0, none⟩)] w fun e w' => ∃ q' K', e = .returned (.pointer (some ⟨q', 0, none⟩)) ∧ DL W w' q' K' (fun k => N k ∨ K k) D ∧ DL W w' q K (fun k => N k ∨ K' k) D ∧ Fr Nob w w' ∧ ∀ k, K' k → w.heap.size ≤ k := by
  obtain ⟨P, s, f, hk, hn', hp'⟩ := h
  refine (copy_eq s).mono ?_
  rintro e w' ⟨q', K', rfl, s1, s2, f', hk'⟩
  refine ⟨q', K', rfl, ⟨P, s1, f.trans' f', fun k h => Nat.le_trans f.size (hk' k h), fun k h => ?_, fun k h1 h2 => ?_⟩, ⟨P, s2, f.trans' f', hk, fun k h => ?_, fun k h1 h2 => ?_⟩, f', hk'⟩
  · rcases h with h | h
    · exact Nat.lt_of_lt_of_le (hn' k h) f'.size
    · exact Nat.lt_of_lt_of_le (s.lt k h) f'.size
  · rcases h2 with h | h
    · exact hp' k h1 h
    · exact s.apart k h1 h
  · rcases h with h | h
    · exact Nat.lt_of_lt_of_le (hn' k h) f'.size
    · exact s1.lt k h
  · rcases h2 with h | h
    · exact hp' k h1 h
    · exact s1.apart k h1 h

theorem stat_eq {P : Nat → Prop} (s : DevAt w q K P D) :
    Calls Try.prog 73 #[.pointer (some ⟨q, 0, none⟩)] w fun e w' => e = .returned (.agg #[.int .i64 D.n0, .int .i64 D.n1, .int .i64 D.n2, .int .i64 D.n3]) ∧ Fr Nob w w' := by
  obtain ⟨g, cap, m, vals, L, s, _⟩ := s
  obtain ⟨_, _, _, _, _, c5, c6, c7, c8, _⟩ := s.cells
  have fa : Fr Nob w (w.alloc (.cells #[.int .i64 0, .int .i64 0, .int .i64 0, .int .i64 0] 99)) := (Fr.refl Nob w).alloc _
  have a5 := fa.cell c5 fun h => h
  have a6 := fa.cell c6 fun h => h
  have a7 := fa.cell c7 fun h => h
  have a8 := fa.cell c8 fun h => h
  clear s fa
  go_enter Try.func73, Try.ntmps73
  go_wp2_with fail
  exact bodyPost_ret (v := .agg #[.int .i64 D.n0, .int .i64 D.n1, .int .i64 D.n2, .int .i64 D.n3]) (by simp [results, Try.results73, go_sem]) rfl ⟨rfl, (Fr.refl Nob w).alloc _⟩
theorem DL.stat (h : DL W w q K N D) :
    Calls Try.prog 73 #[.pointer (some ⟨q, 0, none⟩)] w fun e w' => e = .returned (.agg #[.int .i64 D.n0, .int .i64 D.n1, .int .i64 D.n2, .int .i64 D.n3]) ∧ Fr Nob w w' := by
  obtain ⟨P, s, f, hk, hn', hp⟩ := h
  exact stat_eq s

end
end Go.Proofs.Ytpdljgjofebgpaa
