/-
  The law SegOrder, walked: numbers that nobody uses leave in the order in which they came.
-/
import Derived.Test.YthcalhmiielfkaaSegW
namespace Go.Proofs.Ythcalhmiielfkaa
open Go.RowKit

/-- The sevenfold of k - 1, .., 1, 0. -/
def sevens : Nat → List Int
  | 0 => []
  | k + 1 => (7 * (k : Int)) :: sevens k
/-- The numbers from a on (of k in all), the youngest first. -/
def sevensFrom (a : Nat) : Nat → List Int
  | 0 => []
  | k + 1 => (7 * ((a + k : Nat) : Int)) :: sevensFrom a k
theorem sevensFrom_zero : ∀ k, sevensFrom 0 k = sevens k
  | 0 => rfl
  | k + 1 => by simp [sevensFrom, sevens, sevensFrom_zero k]
theorem sevensFrom_last (a : Nat) : ∀ k, sevensFrom a (k + 1) = sevensFrom (a + 1) k ++ [7 * (a : Int)]
  | 0 => rfl
  | k + 1 => by
    rw [sevensFrom, sevensFrom_last a k, sevensFrom, show a + 1 + k = a + (k + 1) by omega]
    rfl
theorem mem_sevens {x : Int} : ∀ {k : Nat}, x ∈ sevens k → ∃ j : Nat, j < k ∧ x = 7 * (j : Int)
  | 0, h => by simp [sevens] at h
  | k + 1, h => by
    rw [sevens, List.mem_cons] at h
    rcases h with rfl | h
    · exact ⟨k, by omega, rfl⟩
    · obtain ⟨j, hj, e⟩ := mem_sevens h
      exact ⟨j, by omega, e⟩

/-- Nothing is used, nothing is warm; hot and cold behind one another are l. -/
structure Queue (S : Sg) (l : List Int) : Prop where
  ok : S.Ok
  U : S.U = []
  m : S.m = []
  q : S.h ++ S.c = l

theorem Queue.tot {S : Sg} {l : List Int} (p : Queue S l) : S.tot = l.length := by
  rw [← p.q, List.length_append]
  show S.h.length + S.m.length + S.c.length = _
  rw [p.m]
  simp

theorem Queue.sink {S : Sg} {l k : List Int} {x : Int} (p : Queue S l) (hl : S.get 0 = k ++ [x]) : Queue (S.sink 0 k x) l := by
  have hu : S.isUsed x = false := by unfold Sg.isUsed; rw [p.U]; rfl
  have hs : S.sink 0 k x = (S.set 0 k).pushed x 2 := by unfold Sg.sink; rw [hu]; rfl
  refine ⟨p.ok.sink (by omega) hl, by rw [S.sink_U, p.U]; rfl, ?_, ?_⟩
  · rw [hs]
    exact p.m
  · rw [hs]
    show k ++ (x :: S.c) = l
    have : S.h = k ++ [x] := hl
    rw [← p.q, this]
    simp

theorem Sunk.queue {q : Nat} {S S' : Sg} {l : List Int} (k : Sunk q 0 S S') (p : Queue S l) : Queue S' l := by
  generalize ht : 0 = t at k
  induction k with
  | done => exact p
  | more h hl _ ih =>
    subst ht
    exact ih (p.sink hl)

theorem Sunk.warm_nil {q : Nat} {S S' : Sg} (k : Sunk q 1 S S') (h : S.m = []) : S' = S := by
  cases k with
  | done => rfl
  | more h2 _ _ =>
    have : (S.get 1).length = 0 := by
      show S.m.length = 0
      rw [h]
      rfl
    omega

theorem Queue.add {S S' : Sg} {l : List Int} {x : Int} (p : Queue S l) (hx : x ∉ l) (h : AddTo S x S') : (getM S.I x).isSome = false ∧ Queue S' (x :: l) := by
  have hk : getM S.I x = Option.none := by
    cases hg : getM S.I x with
    | none => rfl
    | some v =>
      obtain ⟨t, ht, rfl⟩ := p.ok.rng x v hg
      have hm := (p.ok.inn x t ht).2 hg
      refine absurd ?_ hx
      rw [← p.q, List.mem_append]
      match t with
      | 0 => exact .inl hm
      | 1 =>
        have : x ∈ S.m := hm
        rw [p.m] at this
        simp at this
      | 2 => exact .inr hm
      | t + 3 => omega
  obtain ⟨o, _, ha⟩ := h
  obtain ⟨S1, k1, k2⟩ := ha (by rw [hk]; rfl)
  refine ⟨by rw [hk]; rfl, ?_⟩
  have p0 : Queue (S.pushed x 0) (x :: l) := ⟨p.ok.push hk (by omega), by show delM S.U x = []; rw [p.U]; rfl, p.m, by show x :: S.h ++ S.c = _; rw [← p.q]; rfl⟩
  have p1 := k1.queue p0
  rw [k2.warm_nil p1.m]
  exact p1

theorem Queue.evict {S S' : Sg} {l : List Int} {x y : Int} {ok : Bool} (p : Queue S (l ++ [y])) (h : EvTo S x ok S') : ok = true ∧ x = y ∧ Queue S' l := by
  obtain ⟨o, S1, m, h⟩ := h
  have hu : ∀ z, S.isUsed z = false := fun z => by unfold Sg.isUsed; rw [p.U]; rfl
  have e := m.det (.done fun _ z _ => hu z)
  subst e
  rcases h with ⟨rfl, hl⟩ | ⟨_, _, h0, _⟩
  · have hU : ∀ t k, ((S1.set t k).gone x).U = [] := fun t k => by
      show delM (S1.set t k).U x = []
      rw [S1.set_U, p.U]
      rfl
    cases hl with
    | cold h =>
      have hq := p.q
      rw [h, ← List.append_assoc] at hq
      obtain ⟨h1, h2⟩ := snoc_inj hq
      exact ⟨rfl, h2, o, hU _ _, p.m, h1⟩
    | warm _ h => rw [p.m] at h; simp at h
    | hot h2 _ h =>
      have hq := p.q
      rw [h2, List.append_nil, h] at hq
      obtain ⟨h1, h3⟩ := snoc_inj hq
      refine ⟨rfl, h3, o, hU _ _, p.m, ?_⟩
      show _ ++ S1.c = l
      rw [h2, List.append_nil]
      exact h1
  · rw [p.tot] at h0
    simp at h0

set_option maxHeartbeats 3200000 in
theorem segOrder_walk (n k : Int) (w : World) (hn : (Lit.int .i64 n).wf = true) (hk : (Lit.int .i64 k).wf = true) :
    Calls Try.prog 7 #[.int .i64 n, .int .i64 k] w fun e w' => e = .returned (.bool true) ∧ Fr Nob w w' := by
  obtain ⟨hn1, hn2⟩ := i64_bd hn
  obtain ⟨hk1, hk2⟩ := i64_bd hk
  clear hn hk
  go_enter Try.func7, Try.ntmps7
  go_wp2_with fail
  refine (awake_ok w).mono ?_
  rintro e w0 ⟨rfl, f0⟩
  have f0 := Lib.hid f0
  by_cases hg : n < 1 ∨ 100 < n ∨ k < 0 ∨ n < k
  · go_wp2_with fail
    all_goals
      go_ret
      exact ⟨rfl, f0.out⟩
  · have g1 : 1 ≤ n := by omega
    have g2 : n ≤ 100 := by omega
    have g3 : 0 ≤ k := by omega
    have g4 : k ≤ n := by omega
    clear hg
    obtain ⟨m, rfl⟩ : ∃ m : Nat, n = m := ⟨n.toNat, by omega⟩
    obtain ⟨c, rfl⟩ : ∃ c : Nat, k = c := ⟨k.toNat, by omega⟩
    go_wp2_with fail
    refine (new_new w0 w f0.out).mono ?_
    rintro e w1 ⟨p, rfl, s1⟩
    have s1 := Lib.hid s1
    have q0 : Queue Sg.none (sevens 0) := ⟨Sg.Ok.none, rfl, rfl, rfl⟩
    have Q0 := Lib.hid q0
    clear q0
    go_wp2_with fail
    go_loopw [6] (fun i wr => ∃ (j : Nat) (S : Sg), j ≤ m ∧ i = .int .i64 j ∧ Hid (SegNew w p wr S) ∧ Hid (Queue S (sevens j))) (fun i _ => m - (Lib.intOf i).toNat)
    case atStart => exact ⟨0, _, by omega, rfl, s1, Q0⟩
    case round =>
      clear s1 Q0
      obtain ⟨j, S, hj, rfl, s2, q2⟩ := hrel
      have hlen : S.tot = j := by
        rw [q2.out.tot]
        clear hj q2 s2
        induction j with
        | zero => rfl
        | succ j ih => simp [sevens, ih]
      have HL := Lib.hid hlen
      clear hlen
      by_cases hjm : j < m
      · have hmul : IntKind.i64.wrap (7 * (j : Int)) = 7 * (j : Int) := by rw [IntKind.wrap_i64]; omega
        go_wp2_with fail
        refine (add_new s2.out q2.out.ok (by rw [HL.out]; omega) (7 * (j : Int))).mono ?_
        rintro e w3 ⟨rfl, S3, k3, h3⟩
        obtain ⟨hin, q3⟩ := q2.out.add (fun h => by
          obtain ⟨i, hi, e⟩ := mem_sevens h
          omega) h3
        have s3 := Lib.hid (k3.1 _ s2.out)
        have q3 := Lib.hid q3
        rw [hin]
        clear k3 h3 s2 hin
        go_wp2_with fail
        go_roundw
        case rel => exact ⟨j + 1, S3, by omega, by go_num, s3, q3⟩
        case measure => simp [Lib.intOf]; omega
      · have hjm : j = m := by omega
        subst hjm
        have q2 : Hid (Queue S (sevensFrom 0 j)) := Lib.hid (by rw [sevensFrom_zero]; exact q2.out)
        have hs := s2
        clear HL
        go_wp2_with fail
        go_loopw [7] (fun i wr => ∃ (a b : Nat) (S : Sg), a + b = j ∧ a ≤ c ∧ i = .int .i64 a ∧ Hid (SegNew w p wr S) ∧ Hid (Queue S (sevensFrom a b))) (fun i _ => c - (Lib.intOf i).toNat)
        case atStart => exact ⟨0, j, S, by omega, by omega, rfl, hs, q2⟩
        case round =>
          clear s2 hs q2
          obtain ⟨a, b, S4, hab, hac, rfl, s4, q4⟩ := hrel
          have hl4 : S4.tot = b := by
            rw [q4.out.tot]
            clear hab hac q4 s4
            induction b with
            | zero => rfl
            | succ b ih => simp [sevensFrom, ih]
          have HL := Lib.hid hl4
          clear hl4
          by_cases hlt : a < c
          · obtain ⟨b', rfl⟩ : ∃ b', b = b' + 1 := ⟨b - 1, by omega⟩
            have hmul : IntKind.i64.wrap (7 * (a : Int)) = 7 * (a : Int) := by rw [IntKind.wrap_i64]; omega
            go_wp2_with fail
            refine (evict_new s4.out q4.out.ok (by rw [HL.out]; omega)).mono ?_
            rintro e w5 ⟨x, ok, S5, rfl, k5, h5⟩
            have q4' := q4.out
            rw [sevensFrom_last] at q4'
            obtain ⟨rfl, rfl, q5⟩ := q4'.evict h5
            have s5 := Lib.hid (k5.1 _ s4.out)
            have q5 := Lib.hid q5
            clear k5 h5 s4 q4 q4'
            go_wp2_with fail
            go_roundw
            case rel => exact ⟨a + 1, b', S5, by omega, by omega, by go_num, s5, q5⟩
            case measure => simp [Lib.intOf]; omega
          · have hca : a = c := by omega
            subst hca
            go_wp2_with fail
            refine (len_new s4.out q4.out.ok).mono ?_
            rintro e w' ⟨rfl, rfl⟩
            rw [HL.out]
            have hb : ((b : Int) == (j : Int) - (a : Int)) = true := by rw [beq_iff_eq]; omega
            go_wp2_with fail
            go_ret
            exact ⟨rfl, s4.out.fr⟩

end Go.Proofs.Ythcalhmiielfkaa
