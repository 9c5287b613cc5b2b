/-
  The law DramClear, walked.
-/
import Derived.Test.YtpbbokpmlemboaaDramRoom
namespace Go.Proofs.Ytpbbokpmlemboaa
open Go.RowKit Sl

def keyN (q : Nat) : ByteArray := ⟨#[UInt8.ofNat q]⟩
theorem keyN_inj {a b : Nat} (ha : a < 256) (hb : b < 256) (h : keyN a = keyN b) : a = b := by
  have h1 : UInt8.ofNat a = UInt8.ofNat b := by
    have := congrArg (fun k : ByteArray => k.data.toList) h
    simpa [keyN] using this
  have h2 := congrArg UInt8.toNat h1
  simp only [UInt8.toNat_ofNat'] at h2
  omega
theorem keyN_size (q : Nat) : (keyN q).size = 1 := rfl
/-- The text of one byte. -/
theorem text_one {w : World} {g : Nat} (q : Nat) (hq : q < 256) {v : Int} (hv : v = (q : Int)) (h : w.heap[g]? = some (.cells #[.int .u8 v] 5 (0, 0))) : (convert 52 9 (.slice (some ⟨g, 0, none⟩) 1 1)).run Try.prog w = .ok (.string (keyN q)) w := by
  subst hv
  have e : (#[.int .u8 (q : Int)] : Array Value) = (bytesV [UInt8.ofNat q]).toArray := by
    have : (UInt8.ofNat q).toNat = q := by simp only [UInt8.toNat_ofNat']; omega
    simp only [bytesV, List.map_cons, List.map_nil, this]
  rw [e] at h
  have h1 : RdB w (.slice (some ⟨g, 0, none⟩) [UInt8.ofNat q].length 1) [UInt8.ofNat q] := RdB.of_block h
  exact h1.text _ _ _ Try.underlying52 Try.underlying5 Try.underlying9

/-- The great things of the law's second loop: i of them, their keys the first i. -/
structure Ones (C : DC) (m i : Nat) : Prop where
  big : Big C
  len : C.M.length = i
  sl : C.S.length = m
  keys : ∀ k o, C.look k = some o → ∃ q, 1 ≤ q ∧ q ≤ i ∧ k = keyN q
theorem Ones.none {C : DC} {m i : Nat} (h : Ones C m i) (hi : i < 200) : C.look (keyN (i + 1)) = Option.none := by
  cases hl : C.look (keyN (i + 1)) with
  | none => rfl
  | some o =>
    obtain ⟨q, h1, h2, h3⟩ := h.keys _ _ hl
    have := keyN_inj (by omega) (by omega) h3
    omega
theorem Ones.step {C C' : DC} {m i : Nat} {os : List Ou} (h : Ones C m i) (hi : i < 2 * m) (hm : m ≤ 90) (h1 : 1 ≤ m) (p : PutTo C (bigI (keyN (i + 1))) false os C') : os = [] ∧ Ones C' m (i + 1) := by
  have hg := bigI_good (k := keyN (i + 1)) (by rw [keyN_size]; omega) (by rw [keyN_size]; omega)
  have td := p.told hg h.big.ok
  have hno := h.none (by omega)
  obtain ⟨bp, hb⟩ := h.big.put p hg (bigI_cls (by rw [keyN_size]; omega) (by rw [keyN_size]; omega)) hno (by rw [h.sl]; exact h1)
  have hos : os = [] := by
    cases bp with
    | free _ _ => rfl
    | full hl _ _ => rw [h.len, h.sl] at hl; omega
  subst hos
  have hl := td.len
  rw [show (bigI (keyN (i + 1))).key = keyN (i + 1) from rfl, hno] at hl
  simp only [List.length_nil, Option.isSome_none, Bool.false_eq_true, if_false] at hl
  have h2 := h.len
  refine ⟨rfl, hb, by omega, td.sl.trans h.sl, fun k o ho => ?_⟩
  rw [td.look] at ho
  split at ho
  · rename_i e
    exact ⟨i + 1, by omega, by omega, e⟩
  · rw [if_neg (by simp [keysO])] at ho
    obtain ⟨q, a, b, c⟩ := h.keys _ _ ho
    exact ⟨q, a, by omega, c⟩
def keyM : ByteArray := ⟨#[109, 111, 114, 101]⟩
theorem Ones.last {C C' : DC} {m : Nat} {os : List Ou} (h : Ones C m (2 * m)) (hm : m ≤ 90) (h1 : 1 ≤ m) (p : PutTo C (bigI keyM) false os C') : os.length = 1 ∧ C'.M.length = 2 * m := by
  have hg := bigI_good (k := keyM) (by decide) (by decide)
  have td := p.told hg h.big.ok
  have hno : C.look keyM = Option.none := by
    cases hl : C.look keyM with
    | none => rfl
    | some o =>
      obtain ⟨q, h1, h2, h3⟩ := h.keys _ _ hl
      have := congrArg ByteArray.size h3
      rw [keyN_size] at this
      exact absurd this (by decide)
  obtain ⟨bp, hb⟩ := h.big.put p hg (bigI_cls (by decide) (by decide)) hno (by rw [h.sl]; exact h1)
  have hl := td.len
  rw [show (bigI keyM).key = keyM from rfl, hno] at hl
  simp only [Option.isSome_none, Bool.false_eq_true, if_false] at hl
  have h2 := h.len
  have hos : os.length = 1 := by
    have a := h.sl
    cases bp with
    | free hl2 _ => omega
    | full _ _ _ => rfl
  exact ⟨hos, by omega⟩

set_option maxHeartbeats 8000000 in
set_option maxRecDepth 100000 in
theorem dramClear_in (m : Nat) (A : Option Addr) (n cap : Nat) (z : List It) (w : World) (hm1 : 1 ≤ m) (hm2 : m ≤ 6) (hn : n ≤ 40) (hz : InI w A n cap z) :
    Calls Try.prog 7 #[.int .i64 m, .slice A n cap] w fun e w' => e = .returned (.bool true) ∧ Fr Nob w w' := by
  have e1 : ¬ (m : Int) < 1 := by omega
  have e2 : ¬ 6 < (m : Int) := by omega
  have e3 : ¬ 40 < (n : Int) := by omega
  have HZ := Lib.hid hz
  clear hz
  go_enter Try.func7, Try.ntmps7
  go_wp2_with fail
  refine (awake_ok w).mono ?_
  rintro e w1 ⟨rfl, f1⟩
  have F1 := Lib.hid f1
  clear f1
  go_wp2_with fail
  refine (DW.new (X := Nob) m F1.out (by omega) (by omega) (fun _ h => h.elim)).mono ?_
  rintro e w2 ⟨c, rfl, d2, -⟩
  clear F1
  go_wp2_with fail
  go_loopw [7] (fun i wr => ∃ j : Nat, j ≤ n ∧ i = .int .i64 j ∧ ∃ C, Hid (DW w wr c C Nob) ∧ Hid (C.S.length = m)) (fun i _ => n - (Lib.intOf i).toNat)
  case atStart => exact ⟨0, Nat.zero_le _, rfl, newC m, d2, Lib.hid List.length_replicate⟩
  case round =>
    clear d2
    obtain ⟨j, hj, rfl, C, D, SL⟩ := hrel
    by_cases hlt : j < n
    · have hlt2 : (j : Int) < (n : Int) := by omega
      obtain ⟨g, o, z1, rfl, hz1, ⟨q0, q1, q2, q3, q4⟩, hin⟩ := HZ.out.cell D.out.fr hlt
      obtain ⟨xk, xv, xf, xe, xr⟩ := z1
      clear hin hz1
      by_cases hg : goodI ⟨xk, xv, xf, xe, xr⟩ = true
      · go_wp2_with fail
        refine (D.out.put xk xv xf xe xr false hg).mono ?_
        rintro e w3 ⟨r, os, C2, rfl, pt, d3, row, f3⟩
        have td := pt.out.told hg D.out.ok
        have SL2 : Hid (C2.S.length = m) := Lib.hid (td.sl.trans SL.out)
        have D3 := Lib.hid (d3.out.less (Y := Nob) fun _ h => h.elim)
        clear td pt d3 row f3 D SL q0 q1 q2 q3 q4
        go_wp2_with fail
        go_roundw
        case rel => exact ⟨j + 1, by omega, by go_num, C2, D3, SL2⟩
        case measure => simp [Lib.intOf]; omega
      · have hg : goodI ⟨xk, xv, xf, xe, xr⟩ = false := by simpa using hg
        go_wp2_with fail
        refine (put_bad xk xv xf xe xr false hg).mono ?_
        rintro e w3 ⟨rfl, f3⟩
        have D3 := Lib.hid (D.out.nob f3)
        clear f3 D q0 q1 q2 q3 q4
        go_wp2_with fail
        go_roundw
        case rel => exact ⟨j + 1, by omega, by go_num, C, D3, SL⟩
        case measure => simp [Lib.intOf]; omega
    · go_wp2_with fail
      refine D.out.clear.mono ?_
      rintro e w3 ⟨rfl, xs, C3, hp, ct, d3, f3⟩
      have M3 := ct.out.end_ hp.out
      have ON : Hid (Ones C3 m 0) := Lib.hid ⟨.empty ct.out.ok M3, by rw [M3]; rfl, ct.out.sl.trans SL.out, fun k o ho => by
        obtain ⟨_, x, _, hx⟩ := ct.out.ok.look_key ho
        rw [M3] at hx
        cases hx⟩
      have ML : C3.M.length = 0 := by rw [M3]; rfl
      clear hp ct f3 M3 SL D
      go_wp2_with fail
      refine d3.out.len.mono ?_
      rintro e w' ⟨rfl, rfl⟩
      rw [show (C3.M.length : Int) = 0 by omega]
      go_wp2_with fail
      refine d3.out.items.mono ?_
      rintro e w4 ⟨r4, rfl, row4, f4⟩
      have row4 := row4.out
      rw [items_len d3.out.ok, ML] at row4
      obtain ⟨A4, c4, rfl⟩ := own_form row4
      have d4 := Lib.hid (d3.out.nob f4.out)
      clear d3 row4 f4 ML
      go_wp2_with fail
      go_loopw [8, 9, 10] (fun i _ _ wq => ∃ q : Nat, q ≤ 2 * m ∧ i = .int .i64 q ∧ ∃ C, Hid (DW w wq c C Nob) ∧ Hid (Ones C m q)) (fun i _ _ _ => 2 * m - (Lib.intOf i).toNat)
      case atStart => exact ⟨0, Nat.zero_le _, rfl, C3, d4, ON⟩
      case round =>
        clear d4 ON
        obtain ⟨q, hq, rfl, C4, D, ON⟩ := hrel
        by_cases hqlt : q < 2 * m
        · have hqlt2 : (q : Int) < 2 * (m : Int) := by omega
          have CV := text_one (w := wr.alloc (.cells #[.int .u8 ((q : Int) + 1)] 5)) (g := wr.heap.size) (q + 1) (by omega) (v := (q : Int) + 1) (by omega) (heap_alloc_new wr _)
          have D1 := Lib.hid (D.out.nob ((Fr.refl Nob wr).alloc (.cells #[.int .u8 ((q : Int) + 1)] 5)))
          clear D
          go_wp2_with fail
          refine (big_eq (keyN (q + 1))).mono ?_
          rintro e w5 ⟨rfl, f5⟩
          have D2 := Lib.hid (D1.out.nob f5)
          clear D1 f5 CV
          go_wp2_with fail
          refine (D2.out.put (keyN (q + 1)) bigV 0 0 1 false (bigI_good (by rw [keyN_size]; omega) (by rw [keyN_size]; omega))).mono ?_
          rintro e w6 ⟨r, os, C5, rfl, pt, d6, row, -⟩
          obtain ⟨rfl, on5⟩ := ON.out.step hqlt (by omega) hm1 pt.out
          obtain ⟨A5, c5, rfl⟩ := own_form row.out
          have D6 := Lib.hid (d6.out.less (Y := Nob) fun _ h => h.elim)
          have ON5 := Lib.hid on5
          clear pt d6 row on5 D2 ON
          go_wp2_with fail
          go_roundw
          case rel => exact ⟨q + 1, by omega, by go_num, C5, D6, ON5⟩
          case measure => simp [Lib.intOf]; omega
        · have hqe : q = 2 * m := by omega
          have hqlt2 : ¬ (q : Int) < 2 * (m : Int) := by omega
          go_wp2_with fail
          refine (big_eq keyM).mono ?_
          rintro e w5 ⟨rfl, f5⟩
          have D2 := Lib.hid (D.out.nob f5)
          clear D f5
          go_wp2_with fail
          refine (D2.out.put keyM bigV 0 0 1 false (bigI_good (by decide) (by decide))).mono ?_
          rintro e w6 ⟨r, os, C5, rfl, pt, d6, row, -⟩
          rw [hqe] at ON
          obtain ⟨hos, hlen⟩ := ON.out.last (by omega) hm1 pt.out
          have row := row.out
          rw [hos] at row
          obtain ⟨A5, c5, rfl⟩ := own_form row
          have lenE : (C5.M.length : Int) = 2 * (m : Int) := by omega
          clear pt row D2 ON
          go_wp2_with fail
          refine d6.out.len.mono ?_
          rintro e w' ⟨rfl, rfl⟩
          go_wp2_with fail
          go_ret
          exact ⟨ret_bool (by simp), d6.out.fr⟩

set_option maxHeartbeats 3200000 in
set_option maxRecDepth 100000 in
theorem dramClear_walk (m : Int) (A : Option Addr) (n cap : Nat) (z : List It) (w : World) (_hm : (Lit.int .i64 m).wf = true) (hz : InI w A n cap z) :
    Calls Try.prog 7 #[.int .i64 m, .slice A n cap] w fun e w' => e = .returned (.bool true) ∧ Fr Nob w w' := by
  by_cases hin : ¬ m < 1 ∧ ¬ 6 < m ∧ ¬ 40 < (n : Int)
  · obtain ⟨h1, h2, h3⟩ := hin
    obtain ⟨m, rfl⟩ := Int.eq_ofNat_of_zero_le (show 0 ≤ m by omega)
    exact dramClear_in m A n cap z w (by omega) (by omega) (by omega) hz
  · have hor := first_bad3 hin
    clear hin _hm hz
    rcases hor with h | ⟨h1, h⟩ | ⟨h1, h2, h⟩
    all_goals
      go_enter Try.func7, Try.ntmps7
      go_wp2_with fail
      refine (awake_ok w).mono ?_
      rintro e w0 ⟨rfl, f0⟩
      have f0 := Lib.hid f0
      go_wp2_with fail
      go_ret
      exact ⟨rfl, f0.out⟩
end Go.Proofs.Ytpbbokpmlemboaa
