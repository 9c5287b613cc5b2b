/-
  The law SegSpares, walked: numbers 0 to n - 1 are added, one is used; it does not leave as long as cold has two.
-/
import Derived.Test.YthcalhmiielfkaaSegW
namespace Go.Proofs.Ythcalhmiielfkaa
open Go.RowKit

/-- A state without any used number, and what the law's adds make of it. -/
structure Plain (S : Sg) (k : Nat) : Prop where
  ok : S.Ok
  tot : S.tot = k
  U : S.U = []
  keys : ∀ x, (getM S.I x).isSome = true ↔ (0 ≤ x ∧ x < (k : Int))

theorem Sunk.plainU {q t : Nat} {S S' : Sg} (k : Sunk q t S S') (h : S.U = []) : S'.U = [] := by
  induction k with
  | done => exact h
  | more _ _ _ ih => exact ih (by rw [Sg.sink_U, h]; rfl)
theorem Sg.sink_I (S : Sg) (t : Nat) (l : List Int) (x : Int) : (S.sink t l x).I = setM S.I x ((if S.isUsed x then 1 else 2 : Nat) : Int) := by
  show setM (S.set t l).I x _ = _
  rw [S.set_I]
theorem Sunk.keys {q t : Nat} (ht : t < 3) {S S' : Sg} (k : Sunk q t S S') (o : S.Ok) : ∀ x, (getM S'.I x).isSome = (getM S.I x).isSome := by
  induction k with
  | done => exact fun _ => rfl
  | more h hl _ ih =>
    rename_i S S' l y _
    intro x
    rw [ih (o.sink ht hl), S.sink_I, getM_setM]
    have hy := (o.inn y t ht).1 (by rw [hl]; simp)
    by_cases e : x = y
    · rw [if_pos e, e, hy]
      rfl
    · rw [if_neg e]

theorem Plain.none : Plain Sg.none 0 := ⟨Sg.Ok.none, rfl, rfl, fun x => by
  have : (getM Sg.none.I x).isSome = false := rfl
  rw [this]
  constructor
  · intro h; cases h
  · intro h; omega⟩

theorem Added.keys {S S' : Sg} {y : Int} (o : S.Ok) (hy : getM S.I y = Option.none) (h : Added S y S') : ∀ x, (getM S'.I x).isSome = true ↔ (x = y ∨ (getM S.I x).isSome = true) := by
  obtain ⟨S1, k1, k2⟩ := h
  have o0 := o.push hy (t := 0) (by omega)
  have o1 := k1.ok (by omega) o0
  intro x
  rw [k2.keys (by omega) o1, k1.keys (by omega) o0, show (S.pushed y 0).I = setM S.I y ((0 : Nat) : Int) from rfl, getM_setM]
  by_cases e : x = y
  · rw [if_pos e]
    simp [e]
  · rw [if_neg e]
    simp [e]
theorem Added.tot {S S' : Sg} {y : Int} (h : Added S y S') : S'.tot = S.tot + 1 := by
  obtain ⟨S1, k1, k2⟩ := h
  rw [k2.tot (by omega), k1.tot (by omega), Sg.tot_pushed _ _ (by omega)]
theorem Added.plainU {S S' : Sg} {y : Int} (h : Added S y S') (hU : S.U = []) : S'.U = [] := by
  obtain ⟨S1, k1, k2⟩ := h
  refine k2.plainU (k1.plainU ?_)
  show delM S.U y = []
  rw [hU]
  rfl

theorem Plain.add {S S' : Sg} {k : Nat} (p : Plain S k) (h : AddTo S (k : Int) S') : Plain S' (k + 1) := by
  have hk : getM S.I (k : Int) = Option.none := by
    cases hg : getM S.I (k : Int) with
    | none => rfl
    | some v => have := (p.keys (k : Int)).1 (by rw [hg]; rfl); omega
  obtain ⟨o, _, ha⟩ := h
  have ha := ha (by rw [hk]; rfl)
  refine ⟨o, by rw [ha.tot, p.tot], ha.plainU p.U, fun x => ?_⟩
  rw [ha.keys p.ok hk, p.keys]
  omega

theorem used_touched {S : Sg} {id : Int} (hU : S.U = []) (x : Int) : (S.touched id).isUsed x = decide (x = id) := by
  unfold Sg.isUsed
  rw [show (S.touched id).U = setM S.U id true from rfl, hU, getM_setM]
  by_cases e : x = id
  · simp [e]
  · simp [e, getM_nil]

theorem spares {S S' : Sg} {k : Nat} {id x : Int} {ok : Bool} (p : Plain S k) (hk : 0 < k) (hid : (getM S.I id).isSome = true) (h : EvTo (S.touched id) x ok S') : ok = true ∧ (2 ≤ S.c.length → x ≠ id) := by
  have hu := used_touched (id := id) p.U
  have o := p.ok.touch hid
  obtain ⟨_, S1, m, h⟩ := h
  have ht : (S.touched id).tot = k := p.tot
  rcases h with ⟨rfl, hl⟩ | ⟨_, _, h0, _⟩
  · refine ⟨rfl, fun hc => ?_⟩
    have hcc : (S.touched id).c = S.c := rfl
    cases m with
    | done hd =>
      cases hl with
      | cold h =>
        have := hd _ x h
        rw [hu] at this
        simpa using this
      | warm h _ => rw [hcc] at h; rw [h] at hc; simp at hc
      | hot h _ _ => rw [hcc] at h; rw [h] at hc; simp at hc
    | more hl0 hus m2 =>
      rename_i l y
      rw [hu] at hus
      have hy : y = id := by simpa using hus
      subst hy
      have hcl : S.c = l ++ [y] := hl0
      have hget : (((S.touched y).set 2 l).pushed y 1).c = l := rfl
      have hU2 : ∀ z, (((S.touched y).set 2 l).pushed y 1).isUsed z = false := fun z => by
        unfold Sg.isUsed
        rw [show (((S.touched y).set 2 l).pushed y 1).U = delM (setM S.U y true) y from rfl, getM_delM, getM_setM, p.U]
        by_cases e : z = y
        · rw [if_pos e]; rfl
        · rw [if_neg e, if_neg e]; rfl
      have hS1 := m2.det (.done fun l' x' _ => hU2 x')
      subst hS1
      have hnd := o.nod 2 (by omega)
      rw [show (S.touched y).get 2 = l ++ [y] from hcl, List.nodup_append] at hnd
      cases hl with
      | cold h =>
        rw [hget] at h
        intro e
        exact hnd.2.2 x (by rw [h]; simp) y (by simp) e
      | warm h _ =>
        rw [hget] at h
        rw [hcl, h] at hc
        simp at hc
      | hot h _ _ =>
        rw [hget] at h
        rw [hcl, h] at hc
        simp at hc
  · rw [m.tot, ht] at h0
    omega

set_option maxHeartbeats 3200000 in
theorem segSpares_walk (n id : Int) (w : World) (hn : (Lit.int .i64 n).wf = true) (hi : (Lit.int .i64 id).wf = true) :
    Calls Try.prog 6 #[.int .i64 n, .int .i64 id] w fun e w' => e = .returned (.bool true) ∧ Fr Nob w w' := by
  obtain ⟨hn1, hn2⟩ := i64_bd hn
  obtain ⟨hi1, hi2⟩ := i64_bd hi
  clear hn hi
  go_enter Try.func6, Try.ntmps6
  go_wp2_with fail
  refine (awake_ok w).mono ?_
  rintro e w0 ⟨rfl, f0⟩
  have f0 := Lib.hid f0
  by_cases hg : n < 5 ∨ 100 < n ∨ id < 0 ∨ n ≤ id
  · go_wp2_with fail
    all_goals
      go_ret
      exact ⟨rfl, f0.out⟩
  · have g1 : 5 ≤ n := by omega
    have g2 : n ≤ 100 := by omega
    have g3 : 0 ≤ id := by omega
    have g4 : id < n := by omega
    clear hg
    obtain ⟨m, rfl⟩ : ∃ m : Nat, n = m := ⟨n.toNat, by omega⟩
    go_wp2_with fail
    refine (new_new w0 w f0.out).mono ?_
    rintro e w1 ⟨p, rfl, s1⟩
    have s1 := Lib.hid s1
    go_wp2_with fail
    go_loopw [6] (fun i wr => ∃ (k : Nat) (S : Sg), k ≤ m ∧ i = .int .i64 k ∧ Hid (SegNew w p wr S) ∧ Hid (Plain S k)) (fun i _ => m - (Lib.intOf i).toNat)
    case atStart => exact ⟨0, _, by omega, rfl, s1, Lib.hid Plain.none⟩
    case round =>
      clear s1
      obtain ⟨k, S, hk, rfl, s2, pl⟩ := hrel
      by_cases hkm : k < m
      · go_wp2_with fail
        refine (add_new s2.out pl.out.ok (by rw [pl.out.tot]; omega) k).mono ?_
        rintro e w3 ⟨rfl, S3, k3, h3⟩
        have s3 := Lib.hid (k3.1 _ s2.out)
        have p3 := Lib.hid (pl.out.add h3)
        clear k3 h3 s2
        generalize (!(getM S.I (k : Int)).isSome) = b0
        go_wp2_with fail
        go_roundw
        case rel => exact ⟨k + 1, S3, by omega, by go_num, s3, p3⟩
        case measure => simp [Lib.intOf]; omega
      · have hkm : k = m := by omega
        subst hkm
        have hin : (getM S.I id).isSome = true := (pl.out.keys id).2 ⟨by omega, by omega⟩
        have HI := Lib.hid hin
        clear hin
        go_wp2_with fail
        refine (touch_new s2.out id).mono ?_
        rintro e w4 ⟨rfl, k4⟩
        rw [HI.out, if_pos rfl] at k4
        rw [HI.out]
        have s4 := Lib.hid (k4.1 _ s2.out)
        clear k4 s2
        have htot : (S.touched id).tot = k := pl.out.tot
        have HT := Lib.hid htot
        clear htot
        go_wp2_with fail
        refine (lists_new s4.out (by rw [HT.out]; omega)).mono ?_
        rintro e w5 ⟨a, b, c, rfl, k5, _, _, t3⟩
        obtain ⟨ca, cc, hc, _⟩ := t3.rd
        subst hc
        have s5 := Lib.hid (k5.1 _ s4.out)
        clear k5 t3 s4
        go_wp2_with fail
        refine (evict_new s5.out (pl.out.ok.touch HI.out) (by rw [HT.out]; omega)).mono ?_
        rintro e w6 ⟨x, ok, S6, rfl, k6, h6⟩
        obtain ⟨rfl, hne⟩ := spares pl.out (by omega) HI.out h6
        have f6 := Lib.hid (k6.1 _ s5.out).fr
        have hcl : (S.touched id).c.length ≤ k := by
          have := (S.touched id).get_le (t := 2) (by omega)
          rw [HT.out] at this
          exact this
        clear k6 h6 s5
        have hc0 : (S.touched id).c = S.c := rfl
        rw [hc0] at hcl ⊢
        generalize S.c.length = cl at hcl hne
        by_cases h2 : 2 ≤ cl
        · have hb : (x == id) = false := by simpa using hne h2
          have hb2 : (x != id) = true := by simp [bne, hb]
          have HB2 := Lib.hid hb2
          clear hne hb2 hb
          go_wp2_with fail
          go_ret
          refine ⟨?_, f6.out⟩
          show Ending.returned (.bool (x != id)) = _
          rw [HB2.out]
        · clear hne
          go_wp2_with fail
          go_ret
          exact ⟨rfl, f6.out⟩

end Go.Proofs.Ythcalhmiielfkaa
